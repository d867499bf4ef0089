/- Two values stand to one another as the law says: the walk. -/
import Derived.Test.YtmeebjjdceokeaaDoorValueOrder
import Derived.Test.YtmeebjjdceokeaaDoorCmp03
namespace Go.Proofs.YtmeebjjdceokeaaDoor
open Go.RowKit
set_option linter.unusedVariables false
attribute [local go_sem ↓] Go.wp_at_zero Go.wp_at_succ

theorem alloc2 (w : World) (a b : Array Value) (s t : TypeId) :
    ((w.alloc (.cells a s)).alloc (.cells b t)).heap[w.heap.size]? = some (.cells a s (0, 0)) ∧
    ((w.alloc (.cells a s)).alloc (.cells b t)).heap[w.heap.size + 1]? = some (.cells b t (0, 0)) := by
  have h1 := heap_alloc_new w (.cells a s)
  have h2 := heap_alloc_new (w.alloc (.cells a s)) (.cells b t)
  rw [World.size_alloc] at h2
  exact ⟨alloc_old h1, h2⟩

set_option maxHeartbeats 2000000 in
set_option maxRecDepth 100000 in
theorem cmp_walk (A0 : Option Addr) (n0 c0 : Nat) (z0 : List Int) (A1 : Option Addr) (n1 c1 : Nat) (z1 : List Int) (w : World) (h0 : Bytes w.heap.size w A0 n0 c0 z0) (h1 : Bytes w.heap.size w A1 n1 c1 z1) (ht : Tabs w) :
    Calls Tryd.prog 4 #[.slice A0 n0 c0, .slice A1 n1 c1] w fun e w' => e = .returned (.bool true) ∧ Below w.heap.size w w' := by
  have H0 := hid_mk h0
  have H1 := hid_mk h1
  have HT := hid_mk ht
  clear h0 h1 ht
  go_enter Tryd.func4, Tryd.ntmps4
  go_wp2_with fail
  refine (awake03 w).mono ?_
  rintro e w1 ⟨rfl, b1⟩
  have HB1 := hid_mk b1
  clear b1
  go_wp2_with fail
  refine (of_w A0 n0 c0 z0 w1 (H0.out.of_below HB1.out) (HT.out.below HB1.out)).mono ?_
  rintro e w2 ⟨x, rx, rfl, X2, GX, b2⟩
  have HB2 := hid_mk (bthen HB1.out b2)
  have HX2 := hid_mk X2
  clear X2 b2 HB1
  go_wp2_with fail
  refine (of_w A1 n1 c1 z1 w2 (H1.out.of_below HB2.out) (HT.out.below HB2.out)).mono ?_
  rintro e w4 ⟨y, ry, rfl, Y4, GY, b4⟩
  have HB4 := hid_mk (bthen HB2.out b4)
  have X4 := HX2.out.below b4
  obtain ⟨xk, xi, xt, ⟨xa, xn, xc⟩, ⟨xf, xg, xh⟩⟩ := rx
  obtain ⟨yk, yi, yt, ⟨ya, yn, yc⟩, ⟨yf, yg, yh⟩⟩ := ry
  obtain ⟨W5, hW5⟩ : ∃ W5, W5 = (w4.alloc (.cells #[.int .i64 xk, .int .i64 xi, .string xt, .slice xa xn xc, .slice xf xg xh] 28)).alloc (.cells #[.int .i64 yk, .int .i64 yi, .string yt, .slice ya yn yc, .slice yf yg yh] 28) := ⟨_, rfl⟩
  have b5 : Below w4.heap.size w4 W5 := by rw [hW5]; exact bthen (balloc _) (balloc _)
  obtain ⟨q0, q1⟩ := alloc2 w4 #[.int .i64 xk, .int .i64 xi, .string xt, .slice xa xn xc, .slice xf xg xh] #[.int .i64 yk, .int .i64 yi, .string yt, .slice ya yn yc, .slice yf yg yh] 28 28
  rw [← hW5] at q0 q1
  have HX := hid_mk (X4.below b5)
  have HY := hid_mk (Y4.below b5)
  have HB5 := hid_mk (bthen HB4.out b5)
  have HQ := hid_mk (And.intro (box5 q0) (box5 q1))
  have HW5 := hid_mk hW5.symm
  obtain ⟨c, hc⟩ : ∃ c, c = cmpV 4 x y := ⟨_, rfl⟩
  have hcr := three (cmpV_unit 4 x y)
  rw [← hc] at hcr
  have HC1 := hid_mk (cmp_bw HX.out HY.out)
  have HC2 := hid_mk (cmp03_bw (cmp03_any 4) HX.out HY.out)
  have HS := hid_mk (same_bw HX.out HY.out)
  rw [← hc] at HC1 HC2 HS
  clear hc hW5 b5 X4 Y4 q0 q1 b4 HX2 HB2 GX GY
  simp only [Rv.agg, Sl.v] at HC1 HC2 HS ⊢
  go_wp2_with fail
  rw [HW5.out]
  have x0 := fun y => (HQ.out.1 y).1
  have x1 := fun y => (HQ.out.1 y).2.1
  have x2 := fun y => (HQ.out.1 y).2.2.1
  have x3 := fun y => (HQ.out.1 y).2.2.2.1
  have x4 := fun y => (HQ.out.1 y).2.2.2.2
  have y0 := fun y => (HQ.out.2 y).1
  have y1 := fun y => (HQ.out.2 y).2.1
  have y2 := fun y => (HQ.out.2 y).2.2.1
  have y3 := fun y => (HQ.out.2 y).2.2.2.1
  have y4 := fun y => (HQ.out.2 y).2.2.2.2
  rcases hcr with rfl | rfl | rfl
  all_goals
    refine wp_region_bw W5 (by kernel_rfl) (by kernel_rfl) (Below.refl _ _) ?_
    repeat (go_big_quiet_step ((with_reducible (first | exact HC1.out _ | exact HC2.out _ | exact HS.out _))))
    refine wpQuiet_nil ?_
    rintro _ ⟨q, rfl⟩
    clear x0 x1 x2 x3 x4 y0 y1 y2 y3 y4
    go_wp2_with fail
    go_ret
    exact ⟨by simp, HB5.out.trans (q.h.mono HB5.out.size)⟩

end Go.Proofs.YtmeebjjdceokeaaDoor
