/- The document's example of values. -/
import Derived.Test.YtmeebjjdceokeaaDoorRise
import Derived.Test.YtmeebjjdceokeaaDoorSet
import Derived.Test.YtmeebjjdceokeaaDoorSize
import Derived.Test.YtmeebjjdceokeaaDoorDepth
namespace Go.Proofs.YtmeebjjdceokeaaDoor
open Go.RowKit
set_option linter.unusedVariables false
attribute [local go_sem ↓] Go.wp_at_zero Go.wp_at_succ

set_option maxHeartbeats 1000000 in
set_option maxRecDepth 100000 in
theorem valid_obj (g : Nat) (i : Int) (w : World) (Z : w.heap[g]? = some (.cells #[.string ⟨#[97]⟩, .int .i64 2, .int .i64 i, .string ⟨#[]⟩, .slice none 0 0, .slice none 0 0] 31 (0, 0))) :
    Calls Tryd.prog 20 #[.agg #[.int .i64 5, .int .i64 0, .string ⟨#[]⟩, .slice none 0 0, .slice (some ⟨g, 0, none⟩) 1 1]] w fun e w' => e = .returned (.bool true) ∧ Below w.heap.size w w' := by
  have X0 := heap_alloc_new w (.cells #[.int .i64 5, .int .i64 0, .string ⟨#[]⟩, .slice none 0 0, .slice (some ⟨g, 0, none⟩) 1 1] 28)
  have b0 := balloc (w := w) (.cells #[.int .i64 5, .int .i64 0, .string ⟨#[]⟩, .slice none 0 0, .slice (some ⟨g, 0, none⟩) 1 1] 28)
  have HX := hid_mk X0
  have HB := hid_mk b0
  have HZ := hid_mk (below_block b0 (lt_of_block Z) Z)
  clear X0 b0 Z
  go_enter Tryd.func20, Tryd.ntmps20
  go_wp2_with fail
  refine (bare_obj _ 1 1 _).mono ?_
  rintro e w1 ⟨rfl, b1⟩
  have X1 := below_block b1 (lt_of_block HX.out) HX.out
  have HZ1 := hid_mk (below_block b1 (lt_of_block HZ.out) HZ.out)
  have hb1 := bthen HB.out b1
  have x0 := (cell_of_row w1 _ 0 _ _ _ X1).trans rfl
  have x1 := (cell_of_row w1 _ 1 _ _ _ X1).trans rfl
  have x2 := (cell_of_row w1 _ 2 _ _ _ X1).trans rfl
  have x3 := (cell_of_row w1 _ 3 _ _ _ X1).trans rfl
  have x4 := (cell_of_row w1 _ 4 _ _ _ X1).trans rfl
  have HX1 := hid_mk X1
  have HB1 := hid_mk hb1
  clear X1 hb1 b1
  go_wp2_with fail
  go_loopw [21] (fun s wx => s = .int .i64 0 ∧ wx = w1) (fun _ _ => 0)
  case atStart => exact ⟨rfl, rfl⟩
  case round =>
    obtain ⟨rfl, rfl⟩ := hrel
    go_wp2_with fail
    refine (valid_nil _).mono ?_
    rintro e w2 ⟨rfl, b2⟩
    have X2 := below_block b2 (lt_of_block HX1.out) HX1.out
    have HZ2 := hid_mk (below_block b2 (lt_of_block HZ1.out) HZ1.out)
    have z0 := (cell_of_row w2 _ 0 _ _ _ X2).trans rfl
    have z1 := (cell_of_row w2 _ 1 _ _ _ X2).trans rfl
    have z4 := (cell_of_row w2 _ 4 _ _ _ X2).trans rfl
    have hb2 := hid_mk (bthen HB1.out b2)
    have HX2 := hid_mk X2
    clear b2 X2 x0 x1 x2 x3 x4
    go_wp2_with fail
    refine (rises_one g 1 i _ HZ2.out).mono ?_
    rintro e w3 ⟨rfl, b3⟩
    have X3 := below_block b3 (lt_of_block HX2.out) HX2.out
    have t0 := (cell_of_row w3 _ 0 _ _ _ X3).trans rfl
    have t1 := (cell_of_row w3 _ 1 _ _ _ X3).trans rfl
    have hb3 := hid_mk (bthen hb2.out b3)
    clear b3 X3 z0 z1 z4
    go_wp2_with fail
    go_ret
    exact ⟨by simp, hb3.out⟩

def aV : V := .mk 5 0 ⟨#[]⟩ [] [(⟨#[97]⟩, .mk 2 1 ⟨#[]⟩ [] [])]
def xV : V := .mk 2 2 ⟨#[]⟩ [] []
def bV : V := .mk 5 0 ⟨#[]⟩ [] [(⟨#[97]⟩, .mk 2 2 ⟨#[]⟩ [] [])]
def lV : V := .mk 4 0 ⟨#[]⟩ [.mk 2 5 ⟨#[]⟩ [] []] []
theorem set_ab : setV aV ⟨#[97]⟩ xV = bV := by
  have h : atV aV ⟨#[97]⟩ = ((0 : Nat) : Int) := by
    show (if (5 : Int) = 5 then (if isN ⟨#[97]⟩ ⟨#[97]⟩ = true then ((0 : Nat) : Int) else -1) else -1) = _
    rw [if_pos rfl, if_pos ((isN_iff _ _).2 rfl)]
  rw [setV_found rfl h]; rfl
theorem cmp_ab : cmpV 2 aV bV = -1 := by decide
theorem cmp_la : cmpV 2 lV aV = -1 := by decide
theorem depth_a : depthV 2 aV = 2 := by decide
theorem size_a : sizeV 2 aV = 3 := by decide +kernel

/-- A value of one field. -/
theorem rd_fields1 {d : Nat} {w : World} {g : Nat} (nm : ByteArray) (x : V) (rx : Rv) (k i : Int) (t : ByteArray) (X : RdW d w x rx) (Z : w.heap[g]? = some (.cells (Fv.cs (nm, rx)).toArray 31 (0, 0))) :
    RdW (d + 1) w (.mk k i t [] [(nm, x)]) ⟨k, i, t, ⟨none, 0, 0⟩, ⟨some ⟨g, 0, none⟩, 1, 1⟩⟩ := by
  refine ⟨rfl, rfl, rfl, ⟨[], .nil, Rw.nil _ _ _ _, fun b h => by simp [own, Sl.v, Value.ownBlock] at h⟩, ⟨[(nm, rx)], .cons ⟨rfl, X⟩ .nil, ?_, fun b h => ?_⟩⟩
  · refine ⟨by rw [fcells_length]; rfl, .inr ⟨g, 1, _, rfl, Nat.zero_le _, Z, Nat.le_refl _, by simp [maxLen], by simp [Fv.cs], ?_⟩⟩
    show List.take (1 * 6) (Fv.cs (nm, rx)) = fcells [(nm, rx)]
    rw [fcells_cons]; rfl
  · have e : g = b := by simpa [own, Sl.v, Value.ownBlock] using h
    subst e; exact lt_of_block Z
/-- A list of values that lie in one block. -/
theorem rd_list {d : Nat} {w : World} {g : Nat} (xs : List V) (rs : List Rv) (k i : Int) (t : ByteArray) (X : All2 (RdW d w) xs rs) (Z : w.heap[g]? = some (.cells (vcells rs).toArray 28 (0, 0))) (hn : xs.length < 1000000) :
    RdW (d + 1) w (.mk k i t xs []) ⟨k, i, t, ⟨some ⟨g, 0, none⟩, xs.length, xs.length⟩, ⟨none, 0, 0⟩⟩ := by
  refine ⟨rfl, rfl, rfl, ⟨rs, X, ?_, fun b h => ?_⟩, ⟨[], .nil, Rw.nil _ _ _ _, fun b h => by simp [own, Sl.v, Value.ownBlock] at h⟩⟩
  · have hl := X.length
    refine ⟨by show _ = xs.length * 5; rw [vcells_length, hl], .inr ⟨g, xs.length, _, rfl, Nat.zero_le _, Z, Nat.le_refl _, by simp only [maxLen]; omega, ?_, ?_⟩⟩
    · rw [List.size_toArray, vcells_length, hl]; exact Nat.le_refl _
    · show List.take (xs.length * 5) (vcells rs) = vcells rs
      exact List.take_of_length_le (by rw [vcells_length, hl]; exact Nat.le_refl _)
  · have e : g = b := by simpa [own, Sl.v, Value.ownBlock] using h
    subst e; exact lt_of_block Z

set_option maxHeartbeats 2000000 in
set_option maxRecDepth 100000 in
theorem awake03 (w : World) : Calls Tryd.prog 9 #[] w fun e w' => e = .returned (.bool true) ∧ Below w.heap.size w w' := by
  obtain ⟨W1, hW1⟩ : ∃ W1, W1 = (w.alloc (.cells #[.string ⟨#[97]⟩, .int .i64 2, .int .i64 1, .string ⟨#[]⟩, .slice none 0 0, .slice none 0 0] 31)).alloc (.cells #[.int .i64 5, .int .i64 0, .string ⟨#[]⟩, .slice none 0 0, .slice (some ⟨w.heap.size, 0, none⟩) 1 1] 28) := ⟨_, rfl⟩
  have b1 : Below w.heap.size w W1 := by rw [hW1]; exact bthen (balloc _) (balloc _)
  have Z0 : W1.heap[w.heap.size]? = some (.cells #[.string ⟨#[97]⟩, .int .i64 2, .int .i64 1, .string ⟨#[]⟩, .slice none 0 0, .slice none 0 0] 31 (0, 0)) := by rw [hW1]; exact alloc_old (heap_alloc_new w _)
  have Z1 : W1.heap[w.heap.size + 1]? = some (.cells #[.int .i64 5, .int .i64 0, .string ⟨#[]⟩, .slice none 0 0, .slice (some ⟨w.heap.size, 0, none⟩) 1 1] 28 (0, 0)) := by
    have h := heap_alloc_new (w.alloc (.cells #[.string ⟨#[97]⟩, .int .i64 2, .int .i64 1, .string ⟨#[]⟩, .slice none 0 0, .slice none 0 0] 31)) (.cells #[.int .i64 5, .int .i64 0, .string ⟨#[]⟩, .slice none 0 0, .slice (some ⟨w.heap.size, 0, none⟩) 1 1] 28)
    rw [← hW1, World.size_alloc] at h
    exact h
  have HA : Hid (RdW 2 W1 aV ⟨5, 0, ⟨#[]⟩, ⟨none, 0, 0⟩, ⟨some ⟨w.heap.size, 0, none⟩, 1, 1⟩⟩) := hid_mk (rd_fields1 ⟨#[97]⟩ (.mk 2 1 ⟨#[]⟩ [] []) ⟨2, 1, ⟨#[]⟩, ⟨none, 0, 0⟩, ⟨none, 0, 0⟩⟩ 5 0 ⟨#[]⟩ (Rd.plain 0 2 1 ⟨#[]⟩) Z0)
  have HB1 := hid_mk b1
  have HZ := hid_mk (And.intro Z0 Z1)
  have HW := hid_mk hW1.symm
  clear hW1 b1 Z0 Z1
  go_enter Tryd.func9, Tryd.ntmps9
  go_wp2_with fail
  rw [HW.out]
  refine (set_any 1 aV xV ⟨5, 0, ⟨#[]⟩, ⟨none, 0, 0⟩, ⟨some ⟨w.heap.size, 0, none⟩, 1, 1⟩⟩ ⟨2, 2, ⟨#[]⟩, ⟨none, 0, 0⟩, ⟨none, 0, 0⟩⟩ ⟨#[97]⟩ _ HA.out (Rd.plain 0 2 2 ⟨#[]⟩) (by decide)).mono ?_
  rintro e w2 ⟨r2, rfl, R2, b2⟩
  rw [set_ab] at R2
  obtain ⟨rk, ri, rt, ⟨la, ln, lc⟩, ⟨fa, fn, fc⟩⟩ := r2
  simp only [Rv.agg, Sl.v]
  obtain ⟨W3, hW3⟩ : ∃ W3, W3 = ((w2.alloc (.cells #[.int .i64 rk, .int .i64 ri, .string rt, .slice la ln lc, .slice fa fn fc] 28)).alloc (.cells #[.int .i64 2, .int .i64 5, .string ⟨#[]⟩, .slice none 0 0, .slice none 0 0] 28)).alloc (.cells #[.int .i64 4, .int .i64 0, .string ⟨#[]⟩, .slice (some ⟨w2.heap.size + 1, 0, none⟩) 1 1, .slice none 0 0] 28) := ⟨_, rfl⟩
  have b23 : Below w2.heap.size w2 W3 := by rw [hW3]; exact bthen (bthen (balloc _) (balloc _)) (balloc _)
  have b13 := bthen b2 b23
  have Y0 : W3.heap[w2.heap.size]? = some (.cells #[.int .i64 rk, .int .i64 ri, .string rt, .slice la ln lc, .slice fa fn fc] 28 (0, 0)) := by rw [hW3]; exact alloc_old (alloc_old (heap_alloc_new w2 _))
  have Y1 : W3.heap[w2.heap.size + 1]? = some (.cells #[.int .i64 2, .int .i64 5, .string ⟨#[]⟩, .slice none 0 0, .slice none 0 0] 28 (0, 0)) := by
    have h := heap_alloc_new (w2.alloc (.cells #[.int .i64 rk, .int .i64 ri, .string rt, .slice la ln lc, .slice fa fn fc] 28)) (.cells #[.int .i64 2, .int .i64 5, .string ⟨#[]⟩, .slice none 0 0, .slice none 0 0] 28)
    rw [World.size_alloc] at h
    rw [hW3]; exact alloc_old h
  have Y2 : W3.heap[w2.heap.size + 1 + 1]? = some (.cells #[.int .i64 4, .int .i64 0, .string ⟨#[]⟩, .slice (some ⟨w2.heap.size + 1, 0, none⟩) 1 1, .slice none 0 0] 28 (0, 0)) := by
    have h := heap_alloc_new ((w2.alloc (.cells #[.int .i64 rk, .int .i64 ri, .string rt, .slice la ln lc, .slice fa fn fc] 28)).alloc (.cells #[.int .i64 2, .int .i64 5, .string ⟨#[]⟩, .slice none 0 0, .slice none 0 0] 28)) (.cells #[.int .i64 4, .int .i64 0, .string ⟨#[]⟩, .slice (some ⟨w2.heap.size + 1, 0, none⟩) 1 1, .slice none 0 0] 28)
    rw [World.size_alloc, World.size_alloc, ← hW3] at h
    exact h
  have HL : Hid (RdW 2 W3 lV ⟨4, 0, ⟨#[]⟩, ⟨some ⟨w2.heap.size + 1, 0, none⟩, 1, 1⟩, ⟨none, 0, 0⟩⟩) := hid_mk (rd_list [.mk 2 5 ⟨#[]⟩ [] []] [⟨2, 5, ⟨#[]⟩, ⟨none, 0, 0⟩, ⟨none, 0, 0⟩⟩] 4 0 ⟨#[]⟩ (.cons (Rd.plain 0 2 5 ⟨#[]⟩) .nil) Y1 (by decide))
  have HA3 := hid_mk (HA.out.below b13)
  have HR3 := hid_mk (R2.below b23)
  have HB3 := hid_mk (bthen HB1.out b13)
  have Z0 := below_block b13 (lt_of_block HZ.out.1) HZ.out.1
  have Z1 := below_block b13 (lt_of_block HZ.out.2) HZ.out.2
  have HC : ∀ w', Below W3.heap.size W3 w' → ((w'.cell? ⟨w.heap.size + 1, 0, none⟩ = some (.int .i64 5) ∧ w'.cell? ⟨w.heap.size + 1, 1, none⟩ = some (.int .i64 0) ∧ w'.cell? ⟨w.heap.size + 1, 2, none⟩ = some (.string ⟨#[]⟩) ∧ w'.cell? ⟨w.heap.size + 1, 3, none⟩ = some (.slice none 0 0) ∧ w'.cell? ⟨w.heap.size + 1, 4, none⟩ = some (.slice (some ⟨w.heap.size, 0, none⟩) 1 1)) ∧
      (w'.cell? ⟨w2.heap.size, 0, none⟩ = some (.int .i64 rk) ∧ w'.cell? ⟨w2.heap.size, 1, none⟩ = some (.int .i64 ri) ∧ w'.cell? ⟨w2.heap.size, 2, none⟩ = some (.string rt) ∧ w'.cell? ⟨w2.heap.size, 3, none⟩ = some (.slice la ln lc) ∧ w'.cell? ⟨w2.heap.size, 4, none⟩ = some (.slice fa fn fc)) ∧
      (w'.cell? ⟨w2.heap.size + 1 + 1, 0, none⟩ = some (.int .i64 4) ∧ w'.cell? ⟨w2.heap.size + 1 + 1, 1, none⟩ = some (.int .i64 0) ∧ w'.cell? ⟨w2.heap.size + 1 + 1, 2, none⟩ = some (.string ⟨#[]⟩) ∧ w'.cell? ⟨w2.heap.size + 1 + 1, 3, none⟩ = some (.slice (some ⟨w2.heap.size + 1, 0, none⟩) 1 1) ∧ w'.cell? ⟨w2.heap.size + 1 + 1, 4, none⟩ = some (.slice none 0 0))) := by
    intro w' h
    have q0 := below_block h (lt_of_block Z1) Z1
    have q1 := below_block h (lt_of_block Y0) Y0
    have q2 := below_block h (lt_of_block Y2) Y2
    exact ⟨⟨(cell_of_row _ _ 0 _ _ _ q0).trans rfl, (cell_of_row _ _ 1 _ _ _ q0).trans rfl, (cell_of_row _ _ 2 _ _ _ q0).trans rfl, (cell_of_row _ _ 3 _ _ _ q0).trans rfl, (cell_of_row _ _ 4 _ _ _ q0).trans rfl⟩,
      ⟨(cell_of_row _ _ 0 _ _ _ q1).trans rfl, (cell_of_row _ _ 1 _ _ _ q1).trans rfl, (cell_of_row _ _ 2 _ _ _ q1).trans rfl, (cell_of_row _ _ 3 _ _ _ q1).trans rfl, (cell_of_row _ _ 4 _ _ _ q1).trans rfl⟩,
      ⟨(cell_of_row _ _ 0 _ _ _ q2).trans rfl, (cell_of_row _ _ 1 _ _ _ q2).trans rfl, (cell_of_row _ _ 2 _ _ _ q2).trans rfl, (cell_of_row _ _ 3 _ _ _ q2).trans rfl, (cell_of_row _ _ 4 _ _ _ q2).trans rfl⟩⟩
  have HCC := hid_mk HC
  have hc3 := HC W3 (Below.refl _ _)
  rw [hW3] at hc3
  have HZ0 := hid_mk Z0
  have HW3 := hid_mk hW3.symm
  -- a, as it stands before the boxes
  have y1 := below_block b2 (lt_of_block HZ.out.2) HZ.out.2
  clear HC hW3 Y0 Y1 Y2 Z0 Z1 b13 b23 b2 R2 HZ HA y1
  obtain ⟨⟨a0, a1, a2, a3, a4⟩, ⟨c0, c1, c2, c3, c4⟩, ⟨l0, l1, l2, l3, l4⟩⟩ := hc3
  go_wp2_with fail
  rw [HW3.out]
  refine (valid_obj w.heap.size 1 _ HZ0.out).mono ?_
  rintro e w4 ⟨rfl, b4⟩
  clear a0 a1 a2 a3 a4 c0 c1 c2 c3 c4 l0 l1 l2 l3 l4
  obtain ⟨⟨a0, a1, a2, a3, a4⟩, ⟨c0, c1, c2, c3, c4⟩, ⟨l0, l1, l2, l3, l4⟩⟩ := HCC.out w4 b4
  have HB4 := hid_mk b4
  clear b4
  go_wp2_with fail
  refine (cmp_any 2 aV bV ⟨5, 0, ⟨#[]⟩, ⟨none, 0, 0⟩, ⟨some ⟨w.heap.size, 0, none⟩, 1, 1⟩⟩ ⟨rk, ri, rt, ⟨la, ln, lc⟩, ⟨fa, fn, fc⟩⟩ _ (HA3.out.below HB4.out) (HR3.out.below HB4.out)).mono ?_
  rintro e w5 ⟨rfl, b5⟩
  rw [cmp_ab]
  clear a0 a1 a2 a3 a4 c0 c1 c2 c3 c4 l0 l1 l2 l3 l4
  have HB5 := hid_mk (bthen HB4.out b5)
  obtain ⟨⟨a0, a1, a2, a3, a4⟩, ⟨c0, c1, c2, c3, c4⟩, ⟨l0, l1, l2, l3, l4⟩⟩ := HCC.out w5 HB5.out
  clear b5 HB4
  go_wp2_with fail
  refine (cmp_any 2 lV aV ⟨4, 0, ⟨#[]⟩, ⟨some ⟨w2.heap.size + 1, 0, none⟩, 1, 1⟩, ⟨none, 0, 0⟩⟩ ⟨5, 0, ⟨#[]⟩, ⟨none, 0, 0⟩, ⟨some ⟨w.heap.size, 0, none⟩, 1, 1⟩⟩ _ (HL.out.below HB5.out) (HA3.out.below HB5.out)).mono ?_
  rintro e w6 ⟨rfl, b6⟩
  rw [cmp_la]
  clear a0 a1 a2 a3 a4 c0 c1 c2 c3 c4 l0 l1 l2 l3 l4
  have HB6 := hid_mk (bthen HB5.out b6)
  obtain ⟨⟨a0, a1, a2, a3, a4⟩, ⟨c0, c1, c2, c3, c4⟩, ⟨l0, l1, l2, l3, l4⟩⟩ := HCC.out w6 HB6.out
  clear b6 HB5
  go_wp2_with fail
  refine (depth_any 2 (by decide) aV ⟨5, 0, ⟨#[]⟩, ⟨none, 0, 0⟩, ⟨some ⟨w.heap.size, 0, none⟩, 1, 1⟩⟩ _ (HA3.out.below HB6.out)).mono ?_
  rintro e w7 ⟨rfl, b7⟩
  rw [depth_a]
  clear a0 a1 a2 a3 a4 c0 c1 c2 c3 c4 l0 l1 l2 l3 l4
  have HB7 := hid_mk (bthen HB6.out b7)
  obtain ⟨⟨a0, a1, a2, a3, a4⟩, ⟨c0, c1, c2, c3, c4⟩, ⟨l0, l1, l2, l3, l4⟩⟩ := HCC.out w7 HB7.out
  clear b7 HB6
  go_wp2_with fail
  refine (size_any 2 aV ⟨5, 0, ⟨#[]⟩, ⟨none, 0, 0⟩, ⟨some ⟨w.heap.size, 0, none⟩, 1, 1⟩⟩ _ (HA3.out.below HB7.out)).mono ?_
  rintro e w8 ⟨rfl, b8⟩
  rw [size_a]
  have HB8 := hid_mk (bthen HB3.out (bthen HB7.out b8))
  clear b8 HB7 a0 a1 a2 a3 a4 c0 c1 c2 c3 c4 l0 l1 l2 l3 l4
  go_wp2_with fail
  go_ret
  exact ⟨rfl, HB8.out⟩

end Go.Proofs.YtmeebjjdceokeaaDoor
