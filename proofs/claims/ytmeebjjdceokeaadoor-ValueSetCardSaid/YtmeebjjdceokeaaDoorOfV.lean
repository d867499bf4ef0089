/- Of: the value of bytes. -/
import Derived.Test.YtmeebjjdceokeaaDoorMade
namespace Go.Proofs.YtmeebjjdceokeaaDoor
open Go.RowKit
set_option linter.unusedVariables false
attribute [local go_sem ↓] Go.wp_at_zero Go.wp_at_succ

theorem made_all (lo : Nat) : ∀ (d : Nat), 1 ≤ d → d ≤ 4 → ∀ (A : Option Addr) (n cap : Nat) (zs : List Int) (w : World), lo ≤ w.heap.size → Bytes lo w A n cap zs → Tabs w → Calls Tryd.prog 21 #[.slice A n cap, .int .i64 (d : Int)] w (MadeSaid lo d w)
  | 0, h, _ => absurd h (by omega)
  | d + 1, _, h4 => fun A n cap zs w hlo hb ht => by
    have h := made_step lo d (by omega) (fun h1 => made_all lo d h1 (by omega)) A n cap zs w hlo hb ht
    rw [show ((d + 1 : Nat) : Int) = (d : Int) + 1 by omega]
    exact h.mono fun _ _ h => h.said
theorem made_o (lo : Nat) (A : Option Addr) (n cap : Nat) (zs : List Int) (w : World) (hlo : lo ≤ w.heap.size) (hb : Bytes lo w A n cap zs) (ht : Tabs w) :
    Calls Tryd.prog 21 #[.slice A n cap, .int .i64 4] w (MadeO (0 < n ∧ zs.getD 0 0 % 6 = 5 ∧ 1 ≤ 3) lo 4 w) :=
  made_step lo 3 (by omega) (fun h1 => made_all lo 3 h1 (by omega)) A n cap zs w hlo hb ht
theorem Bytes.prefix_ {lo : Nat} {w : World} {A : Option Addr} {n cap m : Nat} {zs : List Int} (h : Bytes lo w A n cap zs) (hm : m ≤ n) : Bytes lo w A m cap (zs.take m) := by
  obtain ⟨h1, h2, h3, h4, h5⟩ := h
  refine ⟨by rw [List.length_take]; omega, by omega, h3, fun h0 => ?_, fun z hz => h5 z (List.mem_of_mem_take hz)⟩
  obtain ⟨b, off, hA, hb, hc⟩ := h4 (by omega)
  refine ⟨b, off, hA, hb, fun i hi => ?_⟩
  rw [hc i (by omega), List.getD_eq_getElem?_getD, List.getD_eq_getElem?_getD, List.getElem?_take, if_pos hi]

theorem Bytes.of_below {w w' : World} {A : Option Addr} {n cap : Nat} {zs : List Int} (h : Bytes w.heap.size w A n cap zs) (b : Below w.heap.size w w') : Bytes w'.heap.size w' A n cap zs := by
  obtain ⟨h1, h2, h3, h4, h5⟩ := h.below b
  refine ⟨h1, h2, h3, fun h0 => ?_, h5⟩
  obtain ⟨b', off, hA, hb, hc⟩ := h4 h0
  exact ⟨b', off, hA, Nat.lt_of_lt_of_le hb b.size, hc⟩
theorem of_done {d : Nat} {w w0 w1 w2 : World} {v : V} {r : Rv} (D : Rd (fun b => w0.heap.size ≤ b ∧ b < w1.heap.size) d w1 v r) (b1 : Below w.heap.size w w1) (bz : Below w1.heap.size w1 w2) (h0 : w.heap.size < w0.heap.size) (u0 u1 u2 u3 u4 : Value) :
    Rd (fun b => w.heap.size ≤ b ∧ b < (((((w2.setCell ⟨w.heap.size, 0, none⟩ u0).setCell ⟨w.heap.size, 1, none⟩ u1).setCell ⟨w.heap.size, 2, none⟩ u2).setCell ⟨w.heap.size, 3, none⟩ u3).setCell ⟨w.heap.size, 4, none⟩ u4).heap.size) d
      (((((w2.setCell ⟨w.heap.size, 0, none⟩ u0).setCell ⟨w.heap.size, 1, none⟩ u1).setCell ⟨w.heap.size, 2, none⟩ u2).setCell ⟨w.heap.size, 3, none⟩ u3).setCell ⟨w.heap.size, 4, none⟩ u4) v r := by
  obtain ⟨w5, h5⟩ : ∃ w5, w5 = ((((w2.setCell ⟨w.heap.size, 0, none⟩ u0).setCell ⟨w.heap.size, 1, none⟩ u1).setCell ⟨w.heap.size, 2, none⟩ u2).setCell ⟨w.heap.size, 3, none⟩ u3).setCell ⟨w.heap.size, 4, none⟩ u4 := ⟨_, rfl⟩
  obtain ⟨hs, hk⟩ := set5_at u0 u1 u2 u3 u4 w5 h5
  rw [← h5]
  have hz := bz.size
  exact Rd.stays (fun b h => ⟨by have := h.1; omega, by have := h.2; omega⟩) (fun b h => by rw [hk b (by have := h.1; omega), bz.block b h.2]) d v r D

set_option maxHeartbeats 2000000 in
set_option maxRecDepth 100000 in
theorem of_any (A : Option Addr) (n cap : Nat) (zs : List Int) (w : World) (hb : Bytes w.heap.size w A n cap zs) (ht : Tabs w) :
    Calls Tryd.prog 10 #[.slice A n cap] w fun e w' => ∃ v r, e = .returned r.agg ∧ Rd (fun b => w.heap.size ≤ b ∧ b < w'.heap.size) 4 w' v r ∧ VGood 4 v ∧ Below w.heap.size w w' := by
  obtain ⟨m, hmn, hm60, hmm, hmin⟩ := min_fact Tryd.prog n 60 (by omega)
  have hmc : m ≤ cap := by have := hb.2.1; omega
  have X0 := heap_alloc_new w (.cells #[.int .i64 0, .int .i64 0, .string ⟨#[]⟩, .slice none 0 0, .slice none 0 0] 28)
  have bw : Below w.heap.size w (w.alloc (.cells #[.int .i64 0, .int .i64 0, .string ⟨#[]⟩, .slice none 0 0, .slice none 0 0] 28)) := balloc _
  have HB := hid_mk ((hb.prefix_ hmn).below bw)
  have HT := hid_mk (ht.below bw)
  clear hb ht hmm
  go_enter Tryd.func10, Tryd.ntmps10
  go_wp2_with fail
  refine (made_all w.heap.size 4 (by omega) (by omega) A m cap (zs.take m) _ bw.size HB.out HT.out).mono ?_
  rintro e w1 ⟨v, r, A2, n2, c2, z2, rfl, D1, G1, T1, b1⟩
  obtain ⟨rk, ri, rt, ⟨la, ln, lc⟩, ⟨fa, fn, fc⟩⟩ := r
  simp only [Rv.agg, Sl.v]
  have hb1 := bthen bw b1
  have X1 := below_block b1 (by simp) X0
  have bz := balloc (w := w1) (.cells #[.int .i64 rk, .int .i64 ri, .string rt, .slice la ln lc, .slice fa fn fc] 28)
  have X2 := below_block bz (lt_of_block X1) X1
  have Yx := heap_alloc_new w1 (.cells #[.int .i64 rk, .int .i64 ri, .string rt, .slice la ln lc, .slice fa fn fc] 28)
  obtain ⟨w2, hw2⟩ : ∃ w2, w2 = w1.alloc (.cells #[.int .i64 rk, .int .i64 ri, .string rt, .slice la ln lc, .slice fa fn fc] 28) := ⟨_, rfl⟩
  rw [← hw2] at X2 Yx bz
  have x0 : w2.cell? ⟨w1.heap.size, 0, none⟩ = some (.int .i64 rk) := (cell_of_row _ _ 0 _ _ _ Yx).trans rfl
  have x1 : w2.cell? ⟨w1.heap.size, 1, none⟩ = some (.int .i64 ri) := (cell_of_row _ _ 1 _ _ _ Yx).trans rfl
  have x2 : w2.cell? ⟨w1.heap.size, 2, none⟩ = some (.string rt) := (cell_of_row _ _ 2 _ _ _ Yx).trans rfl
  have x3 : w2.cell? ⟨w1.heap.size, 3, none⟩ = some (.slice la ln lc) := (cell_of_row _ _ 3 _ _ _ Yx).trans rfl
  have x4 : w2.cell? ⟨w1.heap.size, 4, none⟩ = some (.slice fa fn fc) := (cell_of_row _ _ 4 _ _ _ Yx).trans rfl
  have k0 : w2.cell? ⟨w.heap.size, 0, none⟩ = some (.int .i64 0) := (cell_of_row _ _ 0 _ _ _ X2).trans rfl
  have k1 : w2.cell? ⟨w.heap.size, 1, none⟩ = some (.int .i64 0) := (cell_of_row _ _ 1 _ _ _ X2).trans rfl
  have k2 : w2.cell? ⟨w.heap.size, 2, none⟩ = some (.string ⟨#[]⟩) := (cell_of_row _ _ 2 _ _ _ X2).trans rfl
  have k3 : w2.cell? ⟨w.heap.size, 3, none⟩ = some (.slice none 0 0) := (cell_of_row _ _ 3 _ _ _ X2).trans rfl
  have k4 : w2.cell? ⟨w.heap.size, 4, none⟩ = some (.slice none 0 0) := (cell_of_row _ _ 4 _ _ _ X2).trans rfl
  have f0 : w2.frozen? ⟨w.heap.size, 0, none⟩ = false := by simp [World.frozen?, X2]
  have f1 : w2.frozen? ⟨w.heap.size, 1, none⟩ = false := by simp [World.frozen?, X2]
  have f2 : w2.frozen? ⟨w.heap.size, 2, none⟩ = false := by simp [World.frozen?, X2]
  have f3 : w2.frozen? ⟨w.heap.size, 3, none⟩ = false := by simp [World.frozen?, X2]
  have f4 : w2.frozen? ⟨w.heap.size, 4, none⟩ = false := by simp [World.frozen?, X2]
  have hne : ¬ w1.heap.size = w.heap.size := by have := lt_of_block X1; omega
  have hne' : ¬ w.heap.size = w1.heap.size := by omega
  have hb2 := bthen hb1 bz
  have HD := hid_mk (of_done D1 hb1 bz (by simp))
  have HW2 := hid_mk hw2
  have HG := hid_mk G1
  clear D1 G1 T1 b1 bz X0 X1 X2 Yx bw
  rw [hw2] at x0 x1 x2 x3 x4 k0 k1 k2 k3 k4 f0 f1 f2 f3 f4
  clear hw2
  go_wp2_with fail
  (try simp only [Exit.inBlock, Exit.then])
  refine bodyPost_ret (v := .agg #[.int .i64 rk, .int .i64 ri, .string rt, .slice la ln lc, .slice fa fn fc]) ?_ rfl ?_
  · simp [results, Tryd.results10, go_sem, *]
  · rw [← HW2.out]
    exact ⟨v, ⟨rk, ri, rt, ⟨la, ln, lc⟩, ⟨fa, fn, fc⟩⟩, rfl, HD.out _ _ _ _ _, HG.out, set5_below (Nat.le_refl _) hb2 _ _ _ _ _⟩

end Go.Proofs.YtmeebjjdceokeaaDoor
