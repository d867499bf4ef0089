/- A list of two is one deeper than the deeper one, and one greater than both: the walk. -/
import Derived.Test.YtmeebjjdceokeaaDoorValueCmp
namespace Go.Proofs.YtmeebjjdceokeaaDoor
open Go.RowKit
set_option linter.unusedVariables false
attribute [local go_sem ↓] Go.wp_at_zero Go.wp_at_succ

theorem wrap_eq (a : Int) : IntKind.i64.wrap a = wrap64 a := by rw [IntKind.wrap_i64]; unfold wrap64; omega
theorem depth_bw {d : Nat} (hd : d < 1000) {W : World} {a : V} {ra : Rv} (ha : RdW d W a ra) {n : Int} (hn : depthV d a = n) : ∀ y : BW W, Calls Tryd.prog 11 #[Rv.agg ra] y.w fun e w' => e = .returned (.int .i64 n) ∧ ∃ z : BW W, w' = z.w :=
  fun y => (depth_any d hd a ra y.w (ha.below y.h)).mono (by rintro e w' ⟨h, b⟩; exact ⟨hn ▸ h, y.step b⟩)
theorem size_bw {d : Nat} {W : World} {a : V} {ra : Rv} (ha : RdW d W a ra) {n : Int} (hn : sizeV d a = n) : ∀ y : BW W, Calls Tryd.prog 12 #[Rv.agg ra] y.w fun e w' => e = .returned (.int .i64 n) ∧ ∃ z : BW W, w' = z.w :=
  fun y => (size_any d a ra y.w (ha.below y.h)).mono (by rintro e w' ⟨h, b⟩; exact ⟨hn ▸ h, y.step b⟩)
def lV2 (x y : V) : V := .mk 4 0 ⟨#[]⟩ [x, y] []
def oV (x : V) : V := .mk 5 0 ⟨#[]⟩ [] [(⟨#[97, 98]⟩, x)]
def tV : V := .mk 3 0 ⟨#[97, 98, 99]⟩ [] []
theorem depth_l (x y : V) : depthV 5 (lV2 x y) = 1 + mx (depthV 4 x) (depthV 4 y) := by
  have h := depthV_le 4 x
  show mx (mx 0 (depthV 4 x)) (depthV 4 y) + 1 = _
  have e : mx 0 (depthV 4 x) = depthV 4 x := by unfold mx; split <;> omega
  rw [e]; omega
theorem size_l (x y : V) : sizeV 5 (lV2 x y) = wrap64 (wrap64 (1 + sizeV 4 x) + sizeV 4 y) := rfl
theorem depth_o (x : V) : depthV 5 (oV x) = 1 + depthV 4 x := by
  have h := depthV_le 4 x
  show mx 0 (depthV 4 x) + 1 = _
  have e : mx 0 (depthV 4 x) = depthV 4 x := by unfold mx; split <;> omega
  rw [e]; omega
theorem size_o (x : V) : sizeV 5 (oV x) = wrap64 (3 + sizeV 4 x) := by
  have h : sizeV 5 (oV x) = wrap64 (wrap64 (1 + sizeV 4 x) + (2 : Int)) := rfl
  rw [h]; unfold wrap64; omega
theorem depth_t : depthV 1 tV = 1 := by decide
theorem size_t : sizeV 1 tV = 4 := by decide +kernel
theorem size_z : sizeV 1 zV = 1 := by decide +kernel

theorem alloc7 (w : World) (a b c d e f g : Obj) (A B C D E F G : Obj)
    (h1 : ∀ w : World, (w.alloc a).heap[w.heap.size]? = some A) (h2 : ∀ w : World, (w.alloc b).heap[w.heap.size]? = some B) (h3 : ∀ w : World, (w.alloc c).heap[w.heap.size]? = some C) (h4 : ∀ w : World, (w.alloc d).heap[w.heap.size]? = some D)
    (h5 : ∀ w : World, (w.alloc e).heap[w.heap.size]? = some E) (h6 : ∀ w : World, (w.alloc f).heap[w.heap.size]? = some F) (h7 : ∀ w : World, (w.alloc g).heap[w.heap.size]? = some G) (W : World)
    (hW : W = ((((((w.alloc a).alloc b).alloc c).alloc d).alloc e).alloc f).alloc g) :
    W.heap[w.heap.size]? = some A ∧ W.heap[w.heap.size + 1]? = some B ∧ W.heap[w.heap.size + 1 + 1]? = some C ∧ W.heap[w.heap.size + 1 + 1 + 1]? = some D ∧ W.heap[w.heap.size + 1 + 1 + 1 + 1]? = some E ∧
    W.heap[w.heap.size + 1 + 1 + 1 + 1 + 1]? = some F ∧ W.heap[w.heap.size + 1 + 1 + 1 + 1 + 1 + 1]? = some G ∧ Below w.heap.size w W := by
  have g1 := h1 w
  have g2 := h2 (w.alloc a)
  have g3 := h3 ((w.alloc a).alloc b)
  have g4 := h4 (((w.alloc a).alloc b).alloc c)
  have g5 := h5 ((((w.alloc a).alloc b).alloc c).alloc d)
  have g6 := h6 (((((w.alloc a).alloc b).alloc c).alloc d).alloc e)
  have g7 := h7 ((((((w.alloc a).alloc b).alloc c).alloc d).alloc e).alloc f)
  simp only [World.size_alloc] at g2 g3 g4 g5 g6 g7
  subst hW
  exact ⟨alloc_old (alloc_old (alloc_old (alloc_old (alloc_old (alloc_old g1))))), alloc_old (alloc_old (alloc_old (alloc_old (alloc_old g2)))), alloc_old (alloc_old (alloc_old (alloc_old g3))), alloc_old (alloc_old (alloc_old g4)), alloc_old (alloc_old g5), alloc_old g6, g7,
    bthen (bthen (bthen (bthen (bthen (bthen (balloc _) (balloc _)) (balloc _)) (balloc _)) (balloc _)) (balloc _)) (balloc _)⟩

set_option maxHeartbeats 4000000 in
set_option maxRecDepth 100000 in
theorem sizes_walk (A0 : Option Addr) (n0 c0 : Nat) (z0 : List Int) (A1 : Option Addr) (n1 c1 : Nat) (z1 : List Int) (w : World) (h0 : Bytes w.heap.size w A0 n0 c0 z0) (h1 : Bytes w.heap.size w A1 n1 c1 z1) (ht : Tabs w) :
    Calls Tryd.prog 3 #[.slice A0 n0 c0, .slice A1 n1 c1] w fun e w' => e = .returned (.bool true) ∧ Below w.heap.size w w' := by
  have H0 := hid_mk h0
  have H1 := hid_mk h1
  have HT := hid_mk ht
  clear h0 h1 ht
  go_enter Tryd.func3, Tryd.ntmps3
  go_wp2_with fail
  refine (awake03 w).mono ?_
  rintro e w1 ⟨rfl, b1⟩
  have HB1 := hid_mk b1
  clear b1
  go_wp2_with fail
  refine (of_w A0 n0 c0 z0 w1 (H0.out.of_below HB1.out) (HT.out.below HB1.out)).mono ?_
  rintro e w2 ⟨x, rx, rfl, X2, GX, b2⟩
  have HB2 := hid_mk (bthen HB1.out b2)
  have HX2 := hid_mk X2
  clear X2 b2 HB1
  go_wp2_with fail
  refine (of_w A1 n1 c1 z1 w2 (H1.out.of_below HB2.out) (HT.out.below HB2.out)).mono ?_
  rintro e w4 ⟨y, ry, rfl, Y4, GY, b4⟩
  have HB4 := hid_mk (bthen HB2.out b4)
  have X4 := HX2.out.below b4
  obtain ⟨xk, xi, xt, ⟨xa, xn, xc⟩, ⟨xf, xg, xh⟩⟩ := rx
  obtain ⟨yk, yi, yt, ⟨ya, yn, yc⟩, ⟨yf, yg, yh⟩⟩ := ry
  obtain ⟨W5, hW5⟩ : ∃ W5, W5 = ((((((w4.alloc (.cells #[.int .i64 xk, .int .i64 xi, .string xt, .slice xa xn xc, .slice xf xg xh] 28)).alloc (.cells #[.int .i64 yk, .int .i64 yi, .string yt, .slice ya yn yc, .slice yf yg yh] 28)).alloc
      (.cells #[.int .i64 xk, .int .i64 xi, .string xt, .slice xa xn xc, .slice xf xg xh, .int .i64 yk, .int .i64 yi, .string yt, .slice ya yn yc, .slice yf yg yh] 28)).alloc (.cells #[.int .i64 4, .int .i64 0, .string ⟨#[]⟩, .slice (some ⟨w4.heap.size + 1 + 1, 0, none⟩) 2 2, .slice none 0 0] 28)).alloc
      (.cells #[.string ⟨#[97, 98]⟩, .int .i64 xk, .int .i64 xi, .string xt, .slice xa xn xc, .slice xf xg xh] 31)).alloc (.cells #[.int .i64 5, .int .i64 0, .string ⟨#[]⟩, .slice none 0 0, .slice (some ⟨w4.heap.size + 1 + 1 + 1 + 1, 0, none⟩) 1 1] 28)).alloc
      (.cells #[.int .i64 3, .int .i64 0, .string ⟨#[97, 98, 99]⟩, .slice none 0 0, .slice none 0 0] 28) := ⟨_, rfl⟩
  obtain ⟨q0, q1, q2, q3, q4, q5, q6, b5⟩ := alloc7 w4 _ _ _ _ _ _ _ _ _ _ _ _ _ _ (fun w => heap_alloc_new w _) (fun w => heap_alloc_new w _) (fun w => heap_alloc_new w _) (fun w => heap_alloc_new w _) (fun w => heap_alloc_new w _) (fun w => heap_alloc_new w _) (fun w => heap_alloc_new w _) W5 hW5
  have X5 := X4.below b5
  have Y5 := Y4.below b5
  have HB5 := hid_mk (bthen HB4.out b5)
  have L5 : RdW 5 W5 (lV2 x y) ⟨4, 0, ⟨#[]⟩, ⟨some ⟨w4.heap.size + 1 + 1, 0, none⟩, 2, 2⟩, ⟨none, 0, 0⟩⟩ := rd_list [x, y] [⟨xk, xi, xt, ⟨xa, xn, xc⟩, ⟨xf, xg, xh⟩⟩, ⟨yk, yi, yt, ⟨ya, yn, yc⟩, ⟨yf, yg, yh⟩⟩] 4 0 ⟨#[]⟩ (.cons X5 (.cons Y5 .nil)) q2 (by simp)
  have O5 : RdW 5 W5 (oV x) ⟨5, 0, ⟨#[]⟩, ⟨none, 0, 0⟩, ⟨some ⟨w4.heap.size + 1 + 1 + 1 + 1, 0, none⟩, 1, 1⟩⟩ := rd_fields1 ⟨#[97, 98]⟩ x ⟨xk, xi, xt, ⟨xa, xn, xc⟩, ⟨xf, xg, xh⟩⟩ 5 0 ⟨#[]⟩ X5 q4
  have T5 : RdW 1 W5 tV ⟨3, 0, ⟨#[97, 98, 99]⟩, ⟨none, 0, 0⟩, ⟨none, 0, 0⟩⟩ := Rd.plain 0 3 0 ⟨#[97, 98, 99]⟩
  have Z5 : RdW 1 W5 zV zR := Rd.plain 0 0 0 ⟨#[]⟩
  obtain ⟨dx, hdx⟩ : ∃ n, depthV 4 x = n := ⟨_, rfl⟩
  obtain ⟨dy, hdy⟩ : ∃ n, depthV 4 y = n := ⟨_, rfl⟩
  obtain ⟨sx, hsx⟩ : ∃ n, sizeV 4 x = n := ⟨_, rfl⟩
  obtain ⟨sy, hsy⟩ : ∃ n, sizeV 4 y = n := ⟨_, rfl⟩
  obtain ⟨m, hm⟩ : ∃ m, mx dx dy = m := ⟨_, rfl⟩
  obtain ⟨u, hu⟩ : ∃ u, wrap64 (1 + sx) = u := ⟨_, rfl⟩
  obtain ⟨v, hv⟩ : ∃ v, wrap64 (u + sy) = v := ⟨_, rfl⟩
  obtain ⟨t, hs3⟩ : ∃ t, wrap64 (3 + sx) = t := ⟨_, rfl⟩
  have bx := depthV_le 4 x
  have bby := depthV_le 4 y
  rw [hdx] at bx
  rw [hdy] at bby
  have bm : 0 ≤ m ∧ m ≤ 4 := by rw [← hm]; unfold mx; split <;> omega
  have hL1 : depthV 5 (lV2 x y) = 1 + m := by rw [depth_l, hdx, hdy, hm]
  have hL2 : sizeV 5 (lV2 x y) = v := by rw [size_l, hsx, hsy, hu, hv]
  have hO1 : depthV 5 (oV x) = 1 + dx := by rw [depth_o, hdx]
  have hO2 : sizeV 5 (oV x) = t := by rw [size_o, hsx, hs3]
  have D1 := hid_mk (depth_bw (by decide) L5 hL1)
  have D2 := hid_mk (depth_bw (by decide) X5 hdx)
  have D3 := hid_mk (depth_bw (by decide) Y5 hdy)
  have D4 := hid_mk (depth_bw (by decide) O5 hO1)
  have D5 := hid_mk (depth_bw (by decide) T5 depth_t)
  have S1 := hid_mk (size_bw L5 hL2)
  have S2 := hid_mk (size_bw X5 hsx)
  have S3 := hid_mk (size_bw Y5 hsy)
  have S4 := hid_mk (size_bw O5 hO2)
  have S5 := hid_mk (size_bw T5 size_t)
  have S6 := hid_mk (size_bw Z5 size_z)
  have hmx := mx_run Tryd.prog dx dy
  rw [hm] at hmx
  have w1' : IntKind.i64.wrap (1 + m) = 1 + m := by rw [IntKind.wrap_i64]; omega
  have w2' : IntKind.i64.wrap (1 + dx) = 1 + dx := by rw [IntKind.wrap_i64]; omega
  have w3' : IntKind.i64.wrap (1 + sx) = u := by rw [wrap_eq, hu]
  have w4' : IntKind.i64.wrap (u + sy) = v := by rw [wrap_eq, hv]
  have w5' : IntKind.i64.wrap (3 + sx) = t := by rw [wrap_eq, hs3]
  have HWR := hid_mk (And.intro w1' (And.intro w2' (And.intro w3' (And.intro w4' w5'))))
  have HMX := hid_mk hmx
  have HQ := hid_mk (And.intro (box5 q0) (And.intro (box5 q1) (And.intro (box5 q3) (And.intro (box5 q5) (box5 q6)))))
  have HW5 := hid_mk hW5.symm
  simp only [Rv.agg, Sl.v, zR] at D1 D2 D3 D4 D5 S1 S2 S3 S4 S5 S6 ⊢
  clear hdx hdy hsx hsy hm hu hv hs3 bx bby bm hL1 hL2 hO1 hO2 hmx w1' w2' w3' w4' w5' L5 O5 T5 Z5 X5 Y5 X4 Y4 q0 q1 q2 q3 q4 q5 q6 b5 b4 hW5 GX GY HX2 HB2 HB4
  go_wp2_with fail
  rw [HW5.out]
  have fx0 := fun y => (HQ.out.1 y).1
  have fx1 := fun y => (HQ.out.1 y).2.1
  have fx2 := fun y => (HQ.out.1 y).2.2.1
  have fx3 := fun y => (HQ.out.1 y).2.2.2.1
  have fx4 := fun y => (HQ.out.1 y).2.2.2.2
  have fy0 := fun y => (HQ.out.2.1 y).1
  have fy1 := fun y => (HQ.out.2.1 y).2.1
  have fy2 := fun y => (HQ.out.2.1 y).2.2.1
  have fy3 := fun y => (HQ.out.2.1 y).2.2.2.1
  have fy4 := fun y => (HQ.out.2.1 y).2.2.2.2
  have fl0 := fun y => (HQ.out.2.2.1 y).1
  have fl1 := fun y => (HQ.out.2.2.1 y).2.1
  have fl2 := fun y => (HQ.out.2.2.1 y).2.2.1
  have fl3 := fun y => (HQ.out.2.2.1 y).2.2.2.1
  have fl4 := fun y => (HQ.out.2.2.1 y).2.2.2.2
  have fo0 := fun y => (HQ.out.2.2.2.1 y).1
  have fo1 := fun y => (HQ.out.2.2.2.1 y).2.1
  have fo2 := fun y => (HQ.out.2.2.2.1 y).2.2.1
  have fo3 := fun y => (HQ.out.2.2.2.1 y).2.2.2.1
  have fo4 := fun y => (HQ.out.2.2.2.1 y).2.2.2.2
  have ft0 := fun y => (HQ.out.2.2.2.2 y).1
  have ft1 := fun y => (HQ.out.2.2.2.2 y).2.1
  have ft2 := fun y => (HQ.out.2.2.2.2 y).2.2.1
  have ft3 := fun y => (HQ.out.2.2.2.2 y).2.2.2.1
  have ft4 := fun y => (HQ.out.2.2.2.2 y).2.2.2.2
  have hmx := HMX.out
  have w1' := HWR.out.1
  have w2' := HWR.out.2.1
  have w3' := HWR.out.2.2.1
  have w4' := HWR.out.2.2.2.1
  have w5' := HWR.out.2.2.2.2
  refine wp_region_bw W5 (by kernel_rfl) (by kernel_rfl) (Below.refl _ _) ?_
  repeat (go_big_quiet_step ((with_reducible (first | exact D1.out _ | exact D2.out _ | exact D3.out _ | exact D4.out _ | exact D5.out _ | exact S1.out _ | exact S2.out _ | exact S3.out _ | exact S4.out _ | exact S5.out _ | exact S6.out _))))
  refine wpQuiet_nil ?_
  rintro _ ⟨q, rfl⟩
  clear hmx w1' w2' w3' w4' w5'
  go_wp2_with fail
  go_ret
  exact ⟨by simp, HB5.out.trans (q.h.mono HB5.out.size)⟩

end Go.Proofs.YtmeebjjdceokeaaDoor
