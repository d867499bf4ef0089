/- The place of a field; its value. -/
import Derived.Test.YtmeebjjdceokeaaDoorIdx
namespace Go.Proofs.YtmeebjjdceokeaaDoor
open Go.RowKit
set_option linter.unusedVariables false
attribute [local go_sem ↓] Go.wp_at_zero Go.wp_at_succ

def isN (name : ByteArray) : ByteArray → Bool := fun n => n.toList == name.toList
def atV (v : V) (name : ByteArray) : Int := if v.k = 5 then idxF (isN name) v.f 0 else -1
theorem idxF_range (p : ByteArray → Bool) : ∀ (l : List (ByteArray × V)) (i : Nat), idxF p l i = -1 ∨ ∃ k : Nat, idxF p l i = ((i + k : Nat) : Int) ∧ ∃ h : k < l.length, p l[k].1 = true
  | [], _ => .inl rfl
  | f :: l, i => by
    by_cases h : p f.1 = true
    · exact .inr ⟨0, if_pos h, by simp, h⟩
    · have e : idxF p (f :: l) i = idxF p l (i + 1) := if_neg h
      rw [e]
      rcases idxF_range p l (i + 1) with h1 | ⟨k, h1, h2, h3⟩
      · exact .inl h1
      · exact .inr ⟨k + 1, by rw [h1]; omega, by simpa using h2, h3⟩
theorem atV_range (v : V) (name : ByteArray) : atV v name = -1 ∨ (v.k = 5 ∧ ∃ k : Nat, atV v name = (k : Int) ∧ ∃ h : k < v.f.length, isN name v.f[k].1 = true) := by
  unfold atV
  by_cases h : v.k = 5
  · rw [if_pos h]
    rcases idxF_range (isN name) v.f 0 with h1 | ⟨k, h1, h2, h3⟩
    · exact .inl h1
    · exact .inr ⟨h, k, by rw [h1]; omega, h2, h3⟩
  · rw [if_neg h]; exact .inl rfl

set_option maxHeartbeats 2000000 in
set_option maxRecDepth 100000 in
theorem at_any (d : Nat) (v : V) (r : Rv) (name : ByteArray) (w : World) (R : RdW (d + 1) w v r) :
    Calls Tryd.prog 34 #[r.agg, .string name] w fun e w' => e = .returned (.int .i64 (atV v name)) ∧ Below w.heap.size w w' := by
  obtain ⟨p1, p2, p3, p4, p5⟩ := R.rows
  clear p2 p3 p4
  obtain ⟨rk, ri, rt, ⟨la, ln, lc⟩, ⟨fa, fn, fc⟩⟩ := r
  simp only at p1 p5
  obtain ⟨W1, hW1⟩ : ∃ W1, W1 = (w.alloc (.cells #[.int .i64 rk, .int .i64 ri, .string rt, .slice la ln lc, .slice fa fn fc] 28)).alloc (.cells #[.string name] 9) := ⟨_, rfl⟩
  have b1 : Below w.heap.size w W1 := by rw [hW1]; exact bthen (balloc _) (balloc _)
  have hc : W1.cell? ⟨w.heap.size + 1, 0, none⟩ = some (.string name) := by
    have h := heap_alloc_new (w.alloc (.cells #[.int .i64 rk, .int .i64 ri, .string rt, .slice la ln lc, .slice fa fn fc] 28)) (.cells #[.string name] 9)
    rw [← hW1, World.size_alloc] at h
    exact (cell_of_row _ _ 0 _ _ _ h).trans rfl
  have P5 := hid_mk (p5.below b1)
  have HC := hid_mk hc
  have B1 := hid_mk b1
  have HW := hid_mk hW1.symm
  simp only [Rv.agg, Sl.v]
  by_cases h5 : rk = 5
  · subst h5
    have HV : Hid (atV v name = idxF (isN name) v.f 0) := hid_mk (if_pos p1.symm)
    clear p1 p5 R b1 hc hW1
    go_enter Tryd.func34, Tryd.ntmps34
    go_wp2_with fail
    rw [HW.out]
    refine (index_at d (w.heap.size + 1) name (isN name) (at1_any _ name) v.f ⟨fa, fn, fc⟩ _ P5.out HC.out).mono ?_
    rintro e w4 ⟨rfl, b4⟩
    rw [← HV.out]
    have HB := hid_mk (bthen B1.out b4)
    clear b4
    go_wp2_with fail
    go_ret
    exact ⟨rfl, HB.out⟩
  · have q : (rk != 5) = true := by simpa using h5
    have HV : Hid (atV v name = -1) := hid_mk (if_neg (by rw [← p1]; exact h5))
    clear p1 p5 R b1 hc hW1
    go_enter Tryd.func34, Tryd.ntmps34
    go_wp2_with fail
    go_ret
    exact ⟨ret_int HV.out.symm, by rw [HW.out]; exact B1.out⟩

theorem set5v {w : World} {B b : Nat} (hb : B ≤ b) {v0 v1 v2 v3 v4 : Value} {w1 : World} (h : Below B w w1) : Below B w (((((w1.setCell ⟨b, 0, none⟩ v0).setCell ⟨b, 1, none⟩ v1).setCell ⟨b, 2, none⟩ v2).setCell ⟨b, 3, none⟩ v3).setCell ⟨b, 4, none⟩ v4) :=
  ((((h.setCell (p := ⟨b, 0, none⟩) hb v0).setCell (p := ⟨b, 1, none⟩) hb v1).setCell (p := ⟨b, 2, none⟩) hb v2).setCell (p := ⟨b, 3, none⟩) hb v3).setCell (p := ⟨b, 4, none⟩) hb v4
def zV : V := .mk 0 0 ⟨#[]⟩ [] []
def getV (v : V) (name : ByteArray) : V := if 0 ≤ atV v name then (v.f.getD (atV v name).toNat (⟨#[]⟩, zV)).2 else zV
set_option maxHeartbeats 2000000 in
set_option maxRecDepth 100000 in
theorem get_any (d : Nat) (v : V) (r : Rv) (name : ByteArray) (w : World) (R : RdW (d + 2) w v r) :
    Calls Tryd.prog 18 #[r.agg, .string name] w fun e w' => ∃ rx, e = .returned (.tuple #[Rv.agg rx, .bool (decide (0 ≤ atV v name))]) ∧ RdW (d + 1) w' (getV v name) rx ∧ Below w.heap.size w w' := by
  obtain ⟨p1, p2, p3, p4, p5⟩ := R.rows
  clear p2 p3 p4
  obtain ⟨rk, ri, rt, ⟨la, ln, lc⟩, ⟨fa, fn, fc⟩⟩ := r
  simp only at p1 p5
  obtain ⟨W1, hW1⟩ : ∃ W1, W1 = (w.alloc (.cells #[.int .i64 rk, .int .i64 ri, .string rt, .slice la ln lc, .slice fa fn fc] 28)).alloc (.cells #[.int .i64 0, .int .i64 0, .string ⟨#[]⟩, .slice none 0 0, .slice none 0 0] 28) := ⟨_, rfl⟩
  have b1 : Below w.heap.size w W1 := by rw [hW1]; exact bthen (balloc _) (balloc _)
  have X0 : W1.heap[w.heap.size]? = some (.cells #[.int .i64 rk, .int .i64 ri, .string rt, .slice la ln lc, .slice fa fn fc] 28 (0, 0)) := by
    rw [hW1]; exact below_block (balloc _) (by simp) (heap_alloc_new w _)
  have X1 : W1.heap[w.heap.size + 1]? = some (.cells #[.int .i64 0, .int .i64 0, .string ⟨#[]⟩, .slice none 0 0, .slice none 0 0] 28 (0, 0)) := by
    have h := heap_alloc_new (w.alloc (.cells #[.int .i64 rk, .int .i64 ri, .string rt, .slice la ln lc, .slice fa fn fc] 28)) (.cells #[.int .i64 0, .int .i64 0, .string ⟨#[]⟩, .slice none 0 0, .slice none 0 0] 28)
    rw [← hW1, World.size_alloc] at h
    exact h
  have P5 := hid_mk (p5.below b1)
  have HR := hid_mk (R.below b1)
  have HX0 := hid_mk X0
  have HX1 := hid_mk X1
  have B1 := hid_mk b1
  have HW := hid_mk hW1.symm
  have HFS := hid_mk p5
  have hrg := atV_range v name
  simp only [Rv.agg, Sl.v]
  clear p1 p5 R b1 hW1 X0 X1
  go_enter Tryd.func18, Tryd.ntmps18
  have y0 := (cell_of_row W1 _ 0 _ _ _ HX0.out).trans rfl
  have y1 := (cell_of_row W1 _ 1 _ _ _ HX0.out).trans rfl
  have y2 := (cell_of_row W1 _ 2 _ _ _ HX0.out).trans rfl
  have y3 := (cell_of_row W1 _ 3 _ _ _ HX0.out).trans rfl
  have y4 := (cell_of_row W1 _ 4 _ _ _ HX0.out).trans rfl
  have HRG := hid_mk hrg
  clear hrg
  go_wp2_with fail
  rw [HW.out]
  refine (at_any (d + 1) v ⟨rk, ri, rt, ⟨la, ln, lc⟩, ⟨fa, fn, fc⟩⟩ name _ HR.out).mono ?_
  rintro e w4 ⟨rfl, b4⟩
  have Z0 := below_block b4 (lt_of_block HX0.out) HX0.out
  have Z1 := below_block b4 (lt_of_block HX1.out) HX1.out
  have HB4 := hid_mk (bthen B1.out b4)
  have HF4 := hid_mk (P5.out.below b4)
  have x4 := (cell_of_row w4 _ 4 _ _ _ Z0).trans rfl
  have k0 := (cell_of_row w4 _ 0 _ _ _ Z1).trans rfl
  have k1 := (cell_of_row w4 _ 1 _ _ _ Z1).trans rfl
  have k2 := (cell_of_row w4 _ 2 _ _ _ Z1).trans rfl
  have k3 := (cell_of_row w4 _ 3 _ _ _ Z1).trans rfl
  have k4 := (cell_of_row w4 _ 4 _ _ _ Z1).trans rfl
  have f0 : ∀ j, w4.frozen? ⟨w.heap.size + 1, j, none⟩ = false := fun j => by simp [World.frozen?, Z1]
  rcases HRG.out with hm | ⟨hk5, k, hk, hkl, hkn⟩
  · have HG : Hid (getV v name = zV) := hid_mk (if_neg (by rw [hm]; omega))
    have HD : Hid (decide (0 ≤ atV v name) = false) := hid_mk (by rw [hm]; rfl)
    rw [hm]
    clear b4 Z0 Z1 HX0 HX1 y0 y1 y2 y3 y4 hm
    go_wp2_with fail
    (try simp only [Exit.inBlock, Exit.then])
    refine bodyPost_ret (v := .tuple #[zR.agg, .bool false]) ?_ rfl ?_
    · simp [results, Tryd.results18, go_sem, zR, Rv.agg, Sl.v, *]
    · exact ⟨zR, by rw [HD.out]; rfl, by rw [HG.out]; exact Rd.plain d 0 0 ⟨#[]⟩, set5v (Nat.le_succ _) HB4.out⟩
  · have HG : Hid (getV v name = v.f[k].2) := hid_mk (by
      unfold getV
      rw [if_pos (by rw [hk]; omega), hk, Int.toNat_natCast, List.getD_eq_getElem?_getD, List.getElem?_eq_getElem hkl]; rfl)
    have HD : Hid (decide (0 ≤ atV v name) = true) := hid_mk (decide_eq_true (by rw [hk]; omega))
    obtain ⟨e1, q1, q2, HA⟩ := HFS.out.at_
    simp only at e1 q1 q2 HA
    obtain ⟨g, rfl, hg, hcc⟩ := HA (by omega)
    obtain ⟨x, hnm, hx, c0, c1, c2, c3, c4, c5⟩ := hcc k hkl
    obtain ⟨xs, ⟨xk, xi, xt, ⟨xa, xn, xc⟩, ⟨ya, yn, yc⟩⟩⟩ := x
    simp only [Sl.v] at c1 c2 c3 c4 c5
    have c1' := keep_cell HB4.out c1
    have c2' := keep_cell HB4.out c2
    have c3' := keep_cell HB4.out c3
    have c4' := keep_cell HB4.out c4
    have c5' := keep_cell HB4.out c5
    have hgn : ¬ g = w.heap.size + 1 := by omega
    have hng : ¬ w.heap.size + 1 = g := by omega
    have m0 : (0 : Int) ≤ (k : Int) := by omega
    have m1 : (k : Int) < (fn : Int) := by omega
    have HX := hid_mk hx
    rw [hk]
    clear b4 Z0 Z1 HX0 HX1 y0 y1 y2 y3 y4 hk hx hnm c0 c1 c2 c3 c4 c5 hcc HA e1 q1 q2 hkn HF4 hk5
    go_wp2_with fail
    (try simp only [Exit.inBlock, Exit.then])
    refine bodyPost_ret (v := .tuple #[(⟨xk, xi, xt, ⟨xa, xn, xc⟩, ⟨ya, yn, yc⟩⟩ : Rv).agg, .bool true]) ?_ rfl ?_
    · simp [results, Tryd.results18, go_sem, Rv.agg, Sl.v, *]
    · have hf := set5v (b := w.heap.size + 1) (Nat.le_succ _) (v0 := .int .i64 xk) (v1 := .int .i64 xi) (v2 := .string xt) (v3 := .slice xa xn xc) (v4 := .slice ya yn yc) HB4.out
      exact ⟨⟨xk, xi, xt, ⟨xa, xn, xc⟩, ⟨ya, yn, yc⟩⟩, by rw [HD.out]; rfl, by rw [HG.out]; exact RdW.below HX.out hf, hf⟩

end Go.Proofs.YtmeebjjdceokeaaDoor
