/- Values stand in one order: the walk. -/
import Derived.Test.YtmeebjjdceokeaaDoorAwake03
import Derived.Test.YtmeebjjdceokeaaDoorOfV
namespace Go.Proofs.YtmeebjjdceokeaaDoor
open Go.RowKit
set_option linter.unusedVariables false
attribute [local go_sem ↓] Go.wp_at_zero Go.wp_at_succ

/-- Of, read in the world as it stands. -/
theorem of_w (A : Option Addr) (n cap : Nat) (zs : List Int) (w : World) (hb : Bytes w.heap.size w A n cap zs) (ht : Tabs w) :
    Calls Tryd.prog 10 #[.slice A n cap] w fun e w' => ∃ v r, e = .returned (Rv.agg r) ∧ RdW 4 w' v r ∧ VGood 4 v ∧ Below w.heap.size w w' :=
  (of_any A n cap zs w hb ht).mono (by rintro e w' ⟨v, r, h1, h2, h3, h4⟩; exact ⟨v, r, h1, h2.wider (fun b h => h.2), h3, h4⟩)
theorem cmp_self (d : Nat) (x : V) : cmpV d x x = 0 := by have := (cmpV_tot d).anti x x; omega
theorem alloc3 (w : World) (a b c : Array Value) (s t u : TypeId) :
    (((w.alloc (.cells a s)).alloc (.cells b t)).alloc (.cells c u)).heap[w.heap.size]? = some (.cells a s (0, 0)) ∧
    (((w.alloc (.cells a s)).alloc (.cells b t)).alloc (.cells c u)).heap[w.heap.size + 1]? = some (.cells b t (0, 0)) ∧
    (((w.alloc (.cells a s)).alloc (.cells b t)).alloc (.cells c u)).heap[w.heap.size + 1 + 1]? = some (.cells c u (0, 0)) := by
  have h1 := heap_alloc_new w (.cells a s)
  have h2 := heap_alloc_new (w.alloc (.cells a s)) (.cells b t)
  have h3 := heap_alloc_new ((w.alloc (.cells a s)).alloc (.cells b t)) (.cells c u)
  rw [World.size_alloc] at h2
  rw [World.size_alloc, World.size_alloc] at h3
  exact ⟨alloc_old (alloc_old h1), alloc_old h2, h3⟩
/-- Five cells of a value in a box. -/
theorem box5 {w : World} {b : Nat} {k i : Int} {t : ByteArray} {l f : Value} (h : w.heap[b]? = some (.cells #[.int .i64 k, .int .i64 i, .string t, l, f] 28 (0, 0))) :
    ∀ y : BW w, y.w.cell? ⟨b, 0, none⟩ = some (.int .i64 k) ∧ y.w.cell? ⟨b, 1, none⟩ = some (.int .i64 i) ∧ y.w.cell? ⟨b, 2, none⟩ = some (.string t) ∧ y.w.cell? ⟨b, 3, none⟩ = some l ∧ y.w.cell? ⟨b, 4, none⟩ = some f := fun y =>
  ⟨y.cell ((cell_of_row w _ 0 _ _ _ h).trans rfl), y.cell ((cell_of_row w _ 1 _ _ _ h).trans rfl), y.cell ((cell_of_row w _ 2 _ _ _ h).trans rfl), y.cell ((cell_of_row w _ 3 _ _ _ h).trans rfl), y.cell ((cell_of_row w _ 4 _ _ _ h).trans rfl)⟩
theorem cmp_bw {d : Nat} {W : World} {a b : V} {ra rb : Rv} (ha : RdW d W a ra) (hb : RdW d W b rb) : ∀ y : BW W, Calls Tryd.prog 13 #[Rv.agg ra, Rv.agg rb] y.w fun e w' => e = .returned (.int .i64 (cmpV d a b)) ∧ ∃ z : BW W, w' = z.w :=
  fun y => (cmp_any d a b ra rb y.w (ha.below y.h) (hb.below y.h)).mono (by rintro e w' ⟨h, b⟩; exact ⟨h, y.step b⟩)
theorem same_bw {d : Nat} {W : World} {a b : V} {ra rb : Rv} (ha : RdW d W a ra) (hb : RdW d W b rb) : ∀ y : BW W, Calls Tryd.prog 15 #[Rv.agg ra, Rv.agg rb] y.w fun e w' => e = .returned (.bool (cmpV d a b == 0)) ∧ ∃ z : BW W, w' = z.w :=
  fun y => (same_any d a b ra rb y.w (ha.below y.h) (hb.below y.h)).mono (by rintro e w' ⟨h, b⟩; exact ⟨h, y.step b⟩)
theorem three {c : Int} (h : -1 ≤ c ∧ c ≤ 1) : c = -1 ∨ c = 0 ∨ c = 1 := by omega

set_option maxHeartbeats 2000000 in
set_option maxRecDepth 100000 in
theorem order_walk (A0 : Option Addr) (n0 c0 : Nat) (z0 : List Int) (A1 : Option Addr) (n1 c1 : Nat) (z1 : List Int) (A2 : Option Addr) (n2 c2 : Nat) (z2 : List Int) (w : World) (h0 : Bytes w.heap.size w A0 n0 c0 z0) (h1 : Bytes w.heap.size w A1 n1 c1 z1) (h2 : Bytes w.heap.size w A2 n2 c2 z2) (ht : Tabs w) :
    Calls Tryd.prog 5 #[.slice A0 n0 c0, .slice A1 n1 c1, .slice A2 n2 c2] w fun e w' => e = .returned (.bool true) ∧ Below w.heap.size w w' := by
  have H0 := hid_mk h0
  have H1 := hid_mk h1
  have H2 := hid_mk h2
  have HT := hid_mk ht
  clear h0 h1 h2 ht
  go_enter Tryd.func5, Tryd.ntmps5
  go_wp2_with fail
  refine (awake03 w).mono ?_
  rintro e w1 ⟨rfl, b1⟩
  have HB1 := hid_mk b1
  clear b1
  go_wp2_with fail
  refine (of_w A0 n0 c0 z0 w1 (H0.out.of_below HB1.out) (HT.out.below HB1.out)).mono ?_
  rintro e w2 ⟨x, rx, rfl, X2, GX, b2⟩
  have HB2 := hid_mk (bthen HB1.out b2)
  have HX2 := hid_mk X2
  clear X2 b2 HB1
  go_wp2_with fail
  refine (of_w A1 n1 c1 z1 w2 (H1.out.of_below HB2.out) (HT.out.below HB2.out)).mono ?_
  rintro e w3 ⟨y, ry, rfl, Y3, GY, b3⟩
  have HB3 := hid_mk (bthen HB2.out b3)
  have HX3 := hid_mk (HX2.out.below b3)
  have HY3 := hid_mk Y3
  clear Y3 b3 HB2 HX2
  go_wp2_with fail
  refine (of_w A2 n2 c2 z2 w3 (H2.out.of_below HB3.out) (HT.out.below HB3.out)).mono ?_
  rintro e w4 ⟨z, rz, rfl, Z4, GZ, b4⟩
  have HB4 := hid_mk (bthen HB3.out b4)
  have X4 := HX3.out.below b4
  have Y4 := HY3.out.below b4
  obtain ⟨xk, xi, xt, ⟨xa, xn, xc⟩, ⟨xf, xg, xh⟩⟩ := rx
  obtain ⟨yk, yi, yt, ⟨ya, yn, yc⟩, ⟨yf, yg, yh⟩⟩ := ry
  obtain ⟨zk, zi, zt, ⟨za, zn, zc⟩, ⟨zf, zg, zh⟩⟩ := rz
  obtain ⟨W5, hW5⟩ : ∃ W5, W5 = ((w4.alloc (.cells #[.int .i64 xk, .int .i64 xi, .string xt, .slice xa xn xc, .slice xf xg xh] 28)).alloc (.cells #[.int .i64 yk, .int .i64 yi, .string yt, .slice ya yn yc, .slice yf yg yh] 28)).alloc (.cells #[.int .i64 zk, .int .i64 zi, .string zt, .slice za zn zc, .slice zf zg zh] 28) := ⟨_, rfl⟩
  have b5 : Below w4.heap.size w4 W5 := by rw [hW5]; exact bthen (bthen (balloc _) (balloc _)) (balloc _)
  obtain ⟨q0, q1, q2⟩ := alloc3 w4 #[.int .i64 xk, .int .i64 xi, .string xt, .slice xa xn xc, .slice xf xg xh] #[.int .i64 yk, .int .i64 yi, .string yt, .slice ya yn yc, .slice yf yg yh] #[.int .i64 zk, .int .i64 zi, .string zt, .slice za zn zc, .slice zf zg zh] 28 28 28
  rw [← hW5] at q0 q1 q2
  have HX := hid_mk (X4.below b5)
  have HY := hid_mk (Y4.below b5)
  have HZ := hid_mk (Z4.below b5)
  have HB5 := hid_mk (bthen HB4.out b5)
  have HQ := hid_mk (And.intro (box5 q0) (And.intro (box5 q1) (box5 q2)))
  have HW5 := hid_mk hW5.symm
  have HGD := hid_mk (cmpV_tot 4)
  have hun := cmpV_unit 4
  obtain ⟨c, hc⟩ : ∃ c, c = cmpV 4 x y := ⟨_, rfl⟩
  have hc' : cmpV 4 y x = -c := by rw [hc]; exact (cmpV_tot 4).anti x y
  have hcr := three (hun x y)
  rw [← hc] at hcr
  have HC1 := hid_mk (cmp_bw HX.out HY.out)
  have HC2 := hid_mk (cmp_bw HY.out HX.out)
  have HC3 := hid_mk (cmp_bw HX.out HX.out)
  have HS := hid_mk (same_bw HZ.out HZ.out)
  rw [← hc] at HC1
  rw [hc'] at HC2
  rw [cmp_self] at HC3 HS
  have HC4 := hid_mk (cmp_bw HY.out HZ.out)
  have HC5 := hid_mk (cmp_bw HX.out HZ.out)
  obtain ⟨f, hf⟩ : ∃ f, f = cmpV 4 y z := ⟨_, rfl⟩
  obtain ⟨g, hg⟩ : ∃ g, g = cmpV 4 x z := ⟨_, rfl⟩
  have hfr := three (hun y z)
  have hgr := three (hun x z)
  rw [← hf] at hfr HC4
  rw [← hg] at hgr HC5
  have htr : c ≤ 0 → f ≤ 0 → g ≤ 0 := by rw [hc, hf, hg]; exact (cmpV_tot 4).trans x y z
  have HGR := hid_mk hgr
  have HFR := hid_mk hfr
  have HTR := hid_mk htr
  clear hc hc' hf hg hfr hgr hun htr hW5 b5 X4 Y4 Z4 q0 q1 q2 b4 HX3 HY3 HB3 HGD GX GY GZ
  simp only [Rv.agg, Sl.v] at HC1 HC2 HC3 HC4 HC5 HS ⊢
  go_wp2_with fail
  rw [HW5.out]
  have x0 := fun y => (HQ.out.1 y).1
  have x1 := fun y => (HQ.out.1 y).2.1
  have x2 := fun y => (HQ.out.1 y).2.2.1
  have x3 := fun y => (HQ.out.1 y).2.2.2.1
  have x4 := fun y => (HQ.out.1 y).2.2.2.2
  have y0 := fun y => (HQ.out.2.1 y).1
  have y1 := fun y => (HQ.out.2.1 y).2.1
  have y2 := fun y => (HQ.out.2.1 y).2.2.1
  have y3 := fun y => (HQ.out.2.1 y).2.2.2.1
  have y4 := fun y => (HQ.out.2.1 y).2.2.2.2
  have z0 := fun y => (HQ.out.2.2 y).1
  have z1 := fun y => (HQ.out.2.2 y).2.1
  have z2 := fun y => (HQ.out.2.2 y).2.2.1
  have z3 := fun y => (HQ.out.2.2 y).2.2.2.1
  have z4 := fun y => (HQ.out.2.2 y).2.2.2.2
  rcases hcr with rfl | rfl | rfl
  all_goals
    refine wp_region_bw W5 (by kernel_rfl) (by kernel_rfl) (Below.refl _ _) ?_
    repeat (go_big_quiet_step ((with_reducible (first | exact HC1.out _ | exact HC2.out _ | exact HC3.out _ | exact HS.out _))))
    refine wpQuiet_nil ?_
    rintro _ ⟨q, rfl⟩
    go_wp2_with fail
    refine (HC1.out q).mono ?_
    rintro e w6 ⟨rfl, q6, rfl⟩
    go_wp2_with fail
  · have ht := HTR.out (by omega)
    refine (HC4.out q6).mono ?_
    rintro e w7 ⟨rfl, q7, rfl⟩
    rcases HFR.out with rfl | rfl | rfl
    · have hg0 : g ≤ 0 := ht (by omega)
      have qg : decide (g ≤ 0) = true := decide_eq_true hg0
      clear ht
      go_wp2_with fail
      refine (HC5.out q7).mono ?_
      rintro e w8 ⟨rfl, q8, rfl⟩
      go_wp2_with fail
      go_ret
      exact ⟨by simp [hg0], HB5.out.trans (q8.h.mono HB5.out.size)⟩
    · have hg0 : g ≤ 0 := ht (by omega)
      have qg : decide (g ≤ 0) = true := decide_eq_true hg0
      clear ht
      go_wp2_with fail
      refine (HC5.out q7).mono ?_
      rintro e w8 ⟨rfl, q8, rfl⟩
      go_wp2_with fail
      go_ret
      exact ⟨by simp [hg0], HB5.out.trans (q8.h.mono HB5.out.size)⟩
    · clear ht
      go_wp2_with fail
      go_ret
      exact ⟨by simp, HB5.out.trans (q7.h.mono HB5.out.size)⟩
  · have ht := HTR.out (by omega)
    refine (HC4.out q6).mono ?_
    rintro e w7 ⟨rfl, q7, rfl⟩
    rcases HFR.out with rfl | rfl | rfl
    · have hg0 : g ≤ 0 := ht (by omega)
      have qg : decide (g ≤ 0) = true := decide_eq_true hg0
      clear ht
      go_wp2_with fail
      refine (HC5.out q7).mono ?_
      rintro e w8 ⟨rfl, q8, rfl⟩
      go_wp2_with fail
      go_ret
      exact ⟨by simp [hg0], HB5.out.trans (q8.h.mono HB5.out.size)⟩
    · have hg0 : g ≤ 0 := ht (by omega)
      have qg : decide (g ≤ 0) = true := decide_eq_true hg0
      clear ht
      go_wp2_with fail
      refine (HC5.out q7).mono ?_
      rintro e w8 ⟨rfl, q8, rfl⟩
      go_wp2_with fail
      go_ret
      exact ⟨by simp [hg0], HB5.out.trans (q8.h.mono HB5.out.size)⟩
    · clear ht
      go_wp2_with fail
      go_ret
      exact ⟨by simp, HB5.out.trans (q7.h.mono HB5.out.size)⟩
  · go_ret
    exact ⟨by simp, HB5.out.trans (q6.h.mono HB5.out.size)⟩

end Go.Proofs.YtmeebjjdceokeaaDoor
