/- A function called with all that are right in a value. -/
import Derived.Test.YtmeebjjdceokeaaDoorRdK
namespace Go.Proofs.YtmeebjjdceokeaaDoor
open Go.RowKit
set_option linter.unusedVariables false
attribute [local go_sem ↓] Go.wp_at_zero Go.wp_at_succ

def innerV (v : V) : List V := if v.k = 4 then v.l else if v.k = 5 then v.f.map (·.2) else []
/-- What a function with one captured number does to it. -/
def Steps (d : Nat) (f : Nat) (c : Nat) (g : Int → V → Int) : Prop :=
  ∀ (x : V) (rx : Rv) (n : Int) (W : World), RdW d W x rx → Cnt c n W → Calls Tryd.prog f #[rx.agg, .pointer (some ⟨c, 0, none⟩)] W fun e W' => e = .returned (.tuple #[]) ∧ Cnt c (g n x) W' ∧ But c W W'
theorem fold_step {g : Int → V → Int} {n0 n : Int} {l : List V} {k : Nat} (hk : k < l.length) (h : n = (l.take k).foldl g n0) : g n l[k] = (l.take (k + 1)).foldl g n0 := by
  rw [List.take_succ_eq_append_getElem hk, List.foldl_append, ← h]; rfl


set_option maxHeartbeats 2000000 in
set_option maxRecDepth 100000 in
theorem inner_depth (d c : Nat) (g : Int → V → Int) (hS : Steps d 23 c g) (v : V) (r : Rv) (n0 : Int) (w : World) (R : RdW (d + 1) w v r) (Z : Cnt c n0 w) :
    Calls Tryd.prog 22 #[r.agg, .func (.func 23) #[] #[.pointer (some ⟨c, 0, none⟩)]] w fun e w' => e = .returned (.tuple #[]) ∧ Cnt c ((innerV v).foldl g n0) w' ∧ But c w w' := by
  obtain ⟨p1, p2, p3, p4, p5⟩ := R.rows
  obtain ⟨rk, ri, rt, ⟨la, ln, lc⟩, ⟨fa, fn, fc⟩⟩ := r
  simp only at p1 p2 p3 p4 p5
  obtain ⟨W0, hW0⟩ : ∃ W0, W0 = w.alloc (.cells #[.int .i64 rk, .int .i64 ri, .string rt, .slice la ln lc, .slice fa fn fc] 28) := ⟨_, rfl⟩
  have b0 : Below w.heap.size w W0 := by rw [hW0]; exact balloc _
  have P4 := hid_mk (p4.below b0)
  have P5 := hid_mk (p5.below b0)
  have Z0 := hid_mk (Z.below b0)
  have B0 : Hid (But c w W0) := hid_mk (But.of_below b0)
  have HS := hid_mk hS
  have X0 : W0.heap[w.heap.size]? = some (.cells #[.int .i64 rk, .int .i64 ri, .string rt, .slice la ln lc, .slice fa fn fc] 28 (0, 0)) := by rw [hW0]; exact heap_alloc_new w _
  have c0 := (cell_of_row W0 _ 0 _ _ _ X0).trans rfl
  have c3 := (cell_of_row W0 _ 3 _ _ _ X0).trans rfl
  have c4 := (cell_of_row W0 _ 4 _ _ _ X0).trans rfl
  simp only [Rv.agg, Sl.v]
  clear R Z p4 p5 hS b0 X0
  by_cases h4 : rk = 4
  · subst h4
    have HI : Hid (innerV v = v.l) := hid_mk (if_pos p1.symm)
    obtain ⟨l, hl⟩ : ∃ l, l = v.l := ⟨_, rfl⟩
    rw [← hl] at HI P4
    obtain ⟨e1, q1, q2, HA⟩ := P4.out.at_
    simp only at e1 q1 q2
    subst e1
    clear p1 p2 p3 hl HA
    go_enter Tryd.func22, Tryd.ntmps22
    go_wp2_with fail
    rw [← hW0]
    clear hW0
    go_loopw [15] (fun iv wr => ∃ (k : Nat) (n : Int), iv = .int .i64 k ∧ k ≤ l.length ∧ Hid (n = (l.take k).foldl g n0) ∧ Hid (RowV d wr l ⟨la, l.length, lc⟩) ∧ Hid (Cnt c n wr) ∧ Hid (But c w wr)) (fun iv _ => l.length - (intOf iv).toNat)
    case atStart => exact ⟨0, n0, rfl, Nat.zero_le _, rfl, P4, Z0, B0⟩
    case round =>
      clear P4 Z0 B0 P5 c0 c3 c4
      obtain ⟨k, n, rfl, hk, HN, HR, HZ, HB⟩ := hrel
      by_cases hlt : k < l.length
      · obtain ⟨_, _, _, HA⟩ := HR.out.at_
        obtain ⟨gg, hga, hgl, hcc⟩ := HA (by omega)
        obtain ⟨x, hx, c0, c1, c2, c3, c4⟩ := hcc k hlt
        obtain ⟨xk, xi, xt, ⟨xa, xn, xc⟩, ⟨ya, yn, yc⟩⟩ := x
        simp only [Sl.v] at c0 c1 c2 c3 c4 hga
        subst hga
        have bz := balloc (w := wr) (.cells #[.int .i64 xk, .int .i64 xi, .string xt, .slice xa xn xc, .slice ya yn yc] 28)
        have k0 : (0 : Int) ≤ (k : Int) := by omega
        have k1 : (k : Int) < (l.length : Int) := by omega
        have HX := hid_mk (hx.below bz)
        have HR2 := hid_mk (HR.out.below bz)
        have HZ2 := hid_mk (HZ.out.below bz)
        have HB2 := hid_mk (HB.out.trans (But.of_below bz))
        clear hcc hx HA HR HZ HB bz
        go_wp2_with fail
        refine (HS.out l[k] ⟨xk, xi, xt, ⟨xa, xn, xc⟩, ⟨ya, yn, yc⟩⟩ n _ HX.out HZ2.out).mono ?_
        rintro e w3 ⟨rfl, Z3, b3⟩
        have HR3 := hid_mk (HR2.out.but HZ2.out b3)
        have HZ3 := hid_mk Z3
        have HB3 := hid_mk (HB2.out.trans b3)
        have HN3 : Hid (g n l[k] = (l.take (k + 1)).foldl g n0) := hid_mk (fold_step hlt HN.out)
        clear c0 c1 c2 c3 c4 Z3 b3 HR2 HZ2 HB2 HX
        go_wp2_with fail
        refine ⟨⟨k + 1, g n l[k], ?_, by omega, HN3, HR3, HZ3, HB3⟩, ?_⟩
        · go_num
        · simp [intOf]
          omega
      · obtain rfl : k = l.length := by omega
        have hn : n = l.foldl g n0 := by have := HN.out; rwa [List.take_length] at this
        subst hn
        go_wp2_with fail
        first | go_end0 | (refine bodyPost_ret (results_none rfl _ _ _) rfl ?_)
        exact ⟨rfl, by rw [HI.out]; exact HZ.out, HB.out⟩
  · have g4 : (rk == 4) = false := beq_eq_false_iff_ne.2 h4
    by_cases h5 : rk = 5
    · subst h5
      have HI : Hid (innerV v = v.f.map (·.2)) := hid_mk ((if_neg (by omega)).trans (if_pos p1.symm))
      obtain ⟨l, hl⟩ : ∃ l, l = v.f := ⟨_, rfl⟩
      rw [← hl] at HI P5
      obtain ⟨e1, q1, q2, HA⟩ := P5.out.at_
      simp only at e1 q1 q2
      subst e1
      clear p1 p2 p3 hl HA
      go_enter Tryd.func22, Tryd.ntmps22
      go_wp2_with fail
      rw [← hW0]
      clear hW0
      go_loopw [28] (fun iv wr => ∃ (k : Nat) (n : Int), iv = .int .i64 k ∧ k ≤ l.length ∧ Hid (n = ((l.map (·.2)).take k).foldl g n0) ∧ Hid (RowF d wr l ⟨fa, l.length, fc⟩) ∧ Hid (Cnt c n wr) ∧ Hid (But c w wr)) (fun iv _ => l.length - (intOf iv).toNat)
      case atStart => exact ⟨0, n0, rfl, Nat.zero_le _, rfl, P5, Z0, B0⟩
      case round =>
        clear P4 Z0 B0 P5 c0 c3 c4
        obtain ⟨k, n, rfl, hk, HN, HR, HZ, HB⟩ := hrel
        by_cases hlt : k < l.length
        · obtain ⟨_, _, _, HA⟩ := HR.out.at_
          obtain ⟨gg, hga, hgl, hcc⟩ := HA (by omega)
          obtain ⟨x, hnm, hx, c0, c1, c2, c3, c4, c5⟩ := hcc k hlt
          obtain ⟨xs, xk, xi, xt, ⟨xa, xn, xc⟩, ⟨ya, yn, yc⟩⟩ := x
          simp only [Sl.v] at c0 c1 c2 c3 c4 c5 hga hx
          subst hga
          have bz := balloc (w := wr) (.cells #[.string xs, .int .i64 xk, .int .i64 xi, .string xt, .slice xa xn xc, .slice ya yn yc] 31)
          have k0 : (0 : Int) ≤ (k : Int) := by omega
          have k1 : (k : Int) < (l.length : Int) := by omega
          have HX := hid_mk (hx.below bz)
          have HR2 := hid_mk (HR.out.below bz)
          have HZ2 := hid_mk (HZ.out.below bz)
          have HB2 := hid_mk (HB.out.trans (But.of_below bz))
          have Yn := heap_alloc_new wr (.cells #[.string xs, .int .i64 xk, .int .i64 xi, .string xt, .slice xa xn xc, .slice ya yn yc] 31)
          have y1 := (cell_of_row _ _ 1 _ _ _ Yn).trans rfl
          have y2 := (cell_of_row _ _ 2 _ _ _ Yn).trans rfl
          have y3 := (cell_of_row _ _ 3 _ _ _ Yn).trans rfl
          have y4 := (cell_of_row _ _ 4 _ _ _ Yn).trans rfl
          have y5 := (cell_of_row _ _ 5 _ _ _ Yn).trans rfl
          clear hcc hx HA HR HZ HB bz hnm Yn
          go_wp2_with fail
          refine (HS.out l[k].2 ⟨xk, xi, xt, ⟨xa, xn, xc⟩, ⟨ya, yn, yc⟩⟩ n _ HX.out HZ2.out).mono ?_
          rintro e w3 ⟨rfl, Z3, b3⟩
          have HR3 := hid_mk (HR2.out.but HZ2.out b3)
          have HZ3 := hid_mk Z3
          have HB3 := hid_mk (HB2.out.trans b3)
          have HN3 : Hid (g n l[k].2 = ((l.map (·.2)).take (k + 1)).foldl g n0) := hid_mk (by have h9 := fold_step (g := g) (l := l.map (·.2)) (by simpa using hlt) HN.out; simpa using h9)
          clear c0 c1 c2 c3 c4 c5 y1 y2 y3 y4 y5 Z3 b3 HR2 HZ2 HB2 HX
          go_wp2_with fail
          refine ⟨⟨k + 1, g n l[k].2, ?_, by omega, HN3, HR3, HZ3, HB3⟩, ?_⟩
          · go_num
          · simp [intOf]
            omega
        · obtain rfl : k = l.length := by omega
          have hn : n = (l.map (·.2)).foldl g n0 := by have := HN.out; rwa [show l.length = (l.map (·.2)).length by simp, List.take_length] at this
          subst hn
          go_wp2_with fail
          first | go_end0 | (refine bodyPost_ret (results_none rfl _ _ _) rfl ?_)
          exact ⟨rfl, by rw [HI.out]; exact HZ.out, HB.out⟩
    · have g5 : (rk == 5) = false := beq_eq_false_iff_ne.2 h5
      have HI : Hid (innerV v = []) := hid_mk ((if_neg (by omega)).trans (if_neg (by omega)))
      clear p1 p2 p3 P4 P5
      go_enter Tryd.func22, Tryd.ntmps22
      go_wp2_with fail
      rw [← hW0]
      first | go_end0 | (refine bodyPost_ret (results_none rfl _ _ _) rfl ?_)
      exact ⟨rfl, by rw [HI.out]; exact Z0.out, B0.out⟩


set_option maxHeartbeats 2000000 in
set_option maxRecDepth 100000 in
theorem inner_size (d c : Nat) (g : Int → V → Int) (hS : Steps d 24 c g) (v : V) (r : Rv) (n0 : Int) (w : World) (R : RdW (d + 1) w v r) (Z : Cnt c n0 w) :
    Calls Tryd.prog 22 #[r.agg, .func (.func 24) #[] #[.pointer (some ⟨c, 0, none⟩)]] w fun e w' => e = .returned (.tuple #[]) ∧ Cnt c ((innerV v).foldl g n0) w' ∧ But c w w' := by
  obtain ⟨p1, p2, p3, p4, p5⟩ := R.rows
  obtain ⟨rk, ri, rt, ⟨la, ln, lc⟩, ⟨fa, fn, fc⟩⟩ := r
  simp only at p1 p2 p3 p4 p5
  obtain ⟨W0, hW0⟩ : ∃ W0, W0 = w.alloc (.cells #[.int .i64 rk, .int .i64 ri, .string rt, .slice la ln lc, .slice fa fn fc] 28) := ⟨_, rfl⟩
  have b0 : Below w.heap.size w W0 := by rw [hW0]; exact balloc _
  have P4 := hid_mk (p4.below b0)
  have P5 := hid_mk (p5.below b0)
  have Z0 := hid_mk (Z.below b0)
  have B0 : Hid (But c w W0) := hid_mk (But.of_below b0)
  have HS := hid_mk hS
  have X0 : W0.heap[w.heap.size]? = some (.cells #[.int .i64 rk, .int .i64 ri, .string rt, .slice la ln lc, .slice fa fn fc] 28 (0, 0)) := by rw [hW0]; exact heap_alloc_new w _
  have c0 := (cell_of_row W0 _ 0 _ _ _ X0).trans rfl
  have c3 := (cell_of_row W0 _ 3 _ _ _ X0).trans rfl
  have c4 := (cell_of_row W0 _ 4 _ _ _ X0).trans rfl
  simp only [Rv.agg, Sl.v]
  clear R Z p4 p5 hS b0 X0
  by_cases h4 : rk = 4
  · subst h4
    have HI : Hid (innerV v = v.l) := hid_mk (if_pos p1.symm)
    obtain ⟨l, hl⟩ : ∃ l, l = v.l := ⟨_, rfl⟩
    rw [← hl] at HI P4
    obtain ⟨e1, q1, q2, HA⟩ := P4.out.at_
    simp only at e1 q1 q2
    subst e1
    clear p1 p2 p3 hl HA
    go_enter Tryd.func22, Tryd.ntmps22
    go_wp2_with fail
    rw [← hW0]
    clear hW0
    go_loopw [15] (fun iv wr => ∃ (k : Nat) (n : Int), iv = .int .i64 k ∧ k ≤ l.length ∧ Hid (n = (l.take k).foldl g n0) ∧ Hid (RowV d wr l ⟨la, l.length, lc⟩) ∧ Hid (Cnt c n wr) ∧ Hid (But c w wr)) (fun iv _ => l.length - (intOf iv).toNat)
    case atStart => exact ⟨0, n0, rfl, Nat.zero_le _, rfl, P4, Z0, B0⟩
    case round =>
      clear P4 Z0 B0 P5 c0 c3 c4
      obtain ⟨k, n, rfl, hk, HN, HR, HZ, HB⟩ := hrel
      by_cases hlt : k < l.length
      · obtain ⟨_, _, _, HA⟩ := HR.out.at_
        obtain ⟨gg, hga, hgl, hcc⟩ := HA (by omega)
        obtain ⟨x, hx, c0, c1, c2, c3, c4⟩ := hcc k hlt
        obtain ⟨xk, xi, xt, ⟨xa, xn, xc⟩, ⟨ya, yn, yc⟩⟩ := x
        simp only [Sl.v] at c0 c1 c2 c3 c4 hga
        subst hga
        have bz := balloc (w := wr) (.cells #[.int .i64 xk, .int .i64 xi, .string xt, .slice xa xn xc, .slice ya yn yc] 28)
        have k0 : (0 : Int) ≤ (k : Int) := by omega
        have k1 : (k : Int) < (l.length : Int) := by omega
        have HX := hid_mk (hx.below bz)
        have HR2 := hid_mk (HR.out.below bz)
        have HZ2 := hid_mk (HZ.out.below bz)
        have HB2 := hid_mk (HB.out.trans (But.of_below bz))
        clear hcc hx HA HR HZ HB bz
        go_wp2_with fail
        refine (HS.out l[k] ⟨xk, xi, xt, ⟨xa, xn, xc⟩, ⟨ya, yn, yc⟩⟩ n _ HX.out HZ2.out).mono ?_
        rintro e w3 ⟨rfl, Z3, b3⟩
        have HR3 := hid_mk (HR2.out.but HZ2.out b3)
        have HZ3 := hid_mk Z3
        have HB3 := hid_mk (HB2.out.trans b3)
        have HN3 : Hid (g n l[k] = (l.take (k + 1)).foldl g n0) := hid_mk (fold_step hlt HN.out)
        clear c0 c1 c2 c3 c4 Z3 b3 HR2 HZ2 HB2 HX
        go_wp2_with fail
        refine ⟨⟨k + 1, g n l[k], ?_, by omega, HN3, HR3, HZ3, HB3⟩, ?_⟩
        · go_num
        · simp [intOf]
          omega
      · obtain rfl : k = l.length := by omega
        have hn : n = l.foldl g n0 := by have := HN.out; rwa [List.take_length] at this
        subst hn
        go_wp2_with fail
        first | go_end0 | (refine bodyPost_ret (results_none rfl _ _ _) rfl ?_)
        exact ⟨rfl, by rw [HI.out]; exact HZ.out, HB.out⟩
  · have g4 : (rk == 4) = false := beq_eq_false_iff_ne.2 h4
    by_cases h5 : rk = 5
    · subst h5
      have HI : Hid (innerV v = v.f.map (·.2)) := hid_mk ((if_neg (by omega)).trans (if_pos p1.symm))
      obtain ⟨l, hl⟩ : ∃ l, l = v.f := ⟨_, rfl⟩
      rw [← hl] at HI P5
      obtain ⟨e1, q1, q2, HA⟩ := P5.out.at_
      simp only at e1 q1 q2
      subst e1
      clear p1 p2 p3 hl HA
      go_enter Tryd.func22, Tryd.ntmps22
      go_wp2_with fail
      rw [← hW0]
      clear hW0
      go_loopw [28] (fun iv wr => ∃ (k : Nat) (n : Int), iv = .int .i64 k ∧ k ≤ l.length ∧ Hid (n = ((l.map (·.2)).take k).foldl g n0) ∧ Hid (RowF d wr l ⟨fa, l.length, fc⟩) ∧ Hid (Cnt c n wr) ∧ Hid (But c w wr)) (fun iv _ => l.length - (intOf iv).toNat)
      case atStart => exact ⟨0, n0, rfl, Nat.zero_le _, rfl, P5, Z0, B0⟩
      case round =>
        clear P4 Z0 B0 P5 c0 c3 c4
        obtain ⟨k, n, rfl, hk, HN, HR, HZ, HB⟩ := hrel
        by_cases hlt : k < l.length
        · obtain ⟨_, _, _, HA⟩ := HR.out.at_
          obtain ⟨gg, hga, hgl, hcc⟩ := HA (by omega)
          obtain ⟨x, hnm, hx, c0, c1, c2, c3, c4, c5⟩ := hcc k hlt
          obtain ⟨xs, xk, xi, xt, ⟨xa, xn, xc⟩, ⟨ya, yn, yc⟩⟩ := x
          simp only [Sl.v] at c0 c1 c2 c3 c4 c5 hga hx
          subst hga
          have bz := balloc (w := wr) (.cells #[.string xs, .int .i64 xk, .int .i64 xi, .string xt, .slice xa xn xc, .slice ya yn yc] 31)
          have k0 : (0 : Int) ≤ (k : Int) := by omega
          have k1 : (k : Int) < (l.length : Int) := by omega
          have HX := hid_mk (hx.below bz)
          have HR2 := hid_mk (HR.out.below bz)
          have HZ2 := hid_mk (HZ.out.below bz)
          have HB2 := hid_mk (HB.out.trans (But.of_below bz))
          have Yn := heap_alloc_new wr (.cells #[.string xs, .int .i64 xk, .int .i64 xi, .string xt, .slice xa xn xc, .slice ya yn yc] 31)
          have y1 := (cell_of_row _ _ 1 _ _ _ Yn).trans rfl
          have y2 := (cell_of_row _ _ 2 _ _ _ Yn).trans rfl
          have y3 := (cell_of_row _ _ 3 _ _ _ Yn).trans rfl
          have y4 := (cell_of_row _ _ 4 _ _ _ Yn).trans rfl
          have y5 := (cell_of_row _ _ 5 _ _ _ Yn).trans rfl
          clear hcc hx HA HR HZ HB bz hnm Yn
          go_wp2_with fail
          refine (HS.out l[k].2 ⟨xk, xi, xt, ⟨xa, xn, xc⟩, ⟨ya, yn, yc⟩⟩ n _ HX.out HZ2.out).mono ?_
          rintro e w3 ⟨rfl, Z3, b3⟩
          have HR3 := hid_mk (HR2.out.but HZ2.out b3)
          have HZ3 := hid_mk Z3
          have HB3 := hid_mk (HB2.out.trans b3)
          have HN3 : Hid (g n l[k].2 = ((l.map (·.2)).take (k + 1)).foldl g n0) := hid_mk (by have h9 := fold_step (g := g) (l := l.map (·.2)) (by simpa using hlt) HN.out; simpa using h9)
          clear c0 c1 c2 c3 c4 c5 y1 y2 y3 y4 y5 Z3 b3 HR2 HZ2 HB2 HX
          go_wp2_with fail
          refine ⟨⟨k + 1, g n l[k].2, ?_, by omega, HN3, HR3, HZ3, HB3⟩, ?_⟩
          · go_num
          · simp [intOf]
            omega
        · obtain rfl : k = l.length := by omega
          have hn : n = (l.map (·.2)).foldl g n0 := by have := HN.out; rwa [show l.length = (l.map (·.2)).length by simp, List.take_length] at this
          subst hn
          go_wp2_with fail
          first | go_end0 | (refine bodyPost_ret (results_none rfl _ _ _) rfl ?_)
          exact ⟨rfl, by rw [HI.out]; exact HZ.out, HB.out⟩
    · have g5 : (rk == 5) = false := beq_eq_false_iff_ne.2 h5
      have HI : Hid (innerV v = []) := hid_mk ((if_neg (by omega)).trans (if_neg (by omega)))
      clear p1 p2 p3 P4 P5
      go_enter Tryd.func22, Tryd.ntmps22
      go_wp2_with fail
      rw [← hW0]
      first | go_end0 | (refine bodyPost_ret (results_none rfl _ _ _) rfl ?_)
      exact ⟨rfl, by rw [HI.out]; exact Z0.out, B0.out⟩


end Go.Proofs.YtmeebjjdceokeaaDoor

