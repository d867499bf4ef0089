/- How great a value is. -/
import Derived.Test.YtmeebjjdceokeaaDoorInner
import Derived.Deep.LoopGhost
namespace Go.Proofs.YtmeebjjdceokeaaDoor
open Go.RowKit
set_option linter.unusedVariables false
attribute [local go_sem ↓] Go.wp_at_zero Go.wp_at_succ

def nameSum (l : List (ByteArray × V)) (n : Int) : Int := l.foldl (fun n f => wrap64 (n + (f.1.size : Int))) n
def sizeV : Nat → V → Int
  | 0, _ => 0
  | d + 1, v => (if v.k = 5 then nameSum v.f else id) ((innerV v).foldl (fun n x => wrap64 (n + sizeV d x)) (if v.k = 3 then wrap64 (1 + (v.t.size : Int)) else 1))
theorem sizeV_def (d : Nat) (v : V) : sizeV (d + 1) v = (if v.k = 5 then nameSum v.f else id) ((innerV v).foldl (fun n x => wrap64 (n + sizeV d x)) (if v.k = 3 then wrap64 (1 + (v.t.size : Int)) else 1)) := rfl
theorem name_step {n0 n : Int} {l : List (ByteArray × V)} {k : Nat} (hk : k < l.length) (h : n = nameSum (l.take k) n0) : wrap64 (n + (l[k].1.size : Int)) = nameSum (l.take (k + 1)) n0 := by
  unfold nameSum at h ⊢
  rw [List.take_succ_eq_append_getElem hk, List.foldl_append, ← h]; rfl
def SizeSaid (d : Nat) : Prop := ∀ (v : V) (r : Rv) (w : World), RdW d w v r → Calls Tryd.prog 12 #[r.agg] w fun e w' => e = .returned (.int .i64 (sizeV d v)) ∧ Below w.heap.size w w'

set_option maxHeartbeats 2000000 in
set_option maxRecDepth 100000 in
theorem sclo_any (d c : Nat) (IH : SizeSaid d) : Steps d 24 c (fun n x => wrap64 (n + sizeV d x)) := by
  intro x rx n W R Z
  obtain ⟨rk, ri, rt, ⟨la, ln, lc⟩, ⟨fa, fn, fc⟩⟩ := rx
  obtain ⟨W0, hW0⟩ : ∃ W0, W0 = W.alloc (.cells #[.int .i64 rk, .int .i64 ri, .string rt, .slice la ln lc, .slice fa fn fc] 28) := ⟨_, rfl⟩
  have b0 : Below W.heap.size W W0 := by rw [hW0]; exact balloc _
  have B0 := hid_mk b0
  have hcW := lt_of_block Z
  have HR : Hid (RdW d W0.drew x ⟨rk, ri, rt, ⟨la, ln, lc⟩, ⟨fa, fn, fc⟩⟩) := hid_mk ((R.below b0).below (pw_below (n := 1) (Below.refl _ _)))
  have X0 : W0.heap[W.heap.size]? = some (.cells #[.int .i64 rk, .int .i64 ri, .string rt, .slice la ln lc, .slice fa fn fc] 28 (0, 0)) := by rw [hW0]; exact heap_alloc_new W _
  have Z0 := Z.below b0
  have HZ0 := hid_mk Z0
  have HX0 := hid_mk X0
  have y0 := (cell_of_row W0 _ 0 _ _ _ X0).trans rfl
  have y1 := (cell_of_row W0 _ 1 _ _ _ X0).trans rfl
  have y2 := (cell_of_row W0 _ 2 _ _ _ X0).trans rfl
  have y3 := (cell_of_row W0 _ 3 _ _ _ X0).trans rfl
  have y4 := (cell_of_row W0 _ 4 _ _ _ X0).trans rfl
  have z0 := Z0.at0
  have HIH := hid_mk IH
  have hcz : c < W0.heap.size := lt_of_block Z0
  simp only [Rv.agg, Sl.v]
  clear R Z IH b0 X0 Z0
  go_enter Tryd.func24, Tryd.ntmps24
  go_wp2_with fail
  rw [← hW0]
  clear hW0
  go_region_with ((go_at_call 12; refine (HIH.out x ⟨rk, ri, rt, ⟨la, ln, lc⟩, ⟨fa, fn, fc⟩⟩ _ HR.out).mono ?_; rintro e w4 ⟨rfl, b4⟩; (have HB4 := hid_mk ((pw_below (n := 1) (Below.refl W0.heap.size W0)).trans b4)); (have Z4 := hid_mk (HZ0.out.below HB4.out)); (have k0 := Z4.out.at0); (have kf : w4.frozen? ⟨c, 0, none⟩ = false := (by have h9 := Z4.out; unfold Cnt at h9; simp [World.frozen?, h9])); clear b4))
  all_goals
    go_wp2_with fail
    first | go_end0 | (refine bodyPost_ret (results_none rfl _ _ _) rfl ?_)
    rw [IntWalk.i64_left]
    have q1 := block_setCell Z4.out 0 (.int .i64 (wrap64 (n + sizeV d x))) (by simp)
    have q2 : But c W (w4.setCell ⟨c, 0, none⟩ (.int .i64 (wrap64 (n + sizeV d x)))) := (But.of_below (bthen B0.out HB4.out)).trans (Mv.setCell (F := fun k => k = c) (a := ⟨c, 0, none⟩) _ rfl)
    exact ⟨rfl, q1, q2⟩

set_option maxHeartbeats 2000000 in
set_option maxRecDepth 100000 in
theorem size_step (d : Nat) (IH : SizeSaid d) : SizeSaid (d + 1) := by
  intro v r w R
  have HS := hid_mk fun c => sclo_any d c IH
  obtain ⟨rk, ri, rt, ⟨la, ln, lc⟩, ⟨fa, fn, fc⟩⟩ := r
  obtain ⟨p1, p2, p3, p4, p5⟩ := R.rows
  clear p2 p4
  simp only at p1 p3
  obtain ⟨n0, hn0⟩ : ∃ n0 : Int, n0 = if v.k = 3 then wrap64 (1 + (v.t.size : Int)) else 1 := ⟨_, rfl⟩
  obtain ⟨n1, hn1⟩ : ∃ n1 : Int, n1 = (innerV v).foldl (fun n x => wrap64 (n + sizeV d x)) n0 := ⟨_, rfl⟩
  have HV : Hid (sizeV (d + 1) v = (if v.k = 5 then nameSum v.f else id) n1) := hid_mk (by rw [sizeV_def, hn1, hn0])
  obtain ⟨W0, hW0⟩ : ∃ W0, W0 = w.alloc (.cells #[.int .i64 rk, .int .i64 ri, .string rt, .slice la ln lc, .slice fa fn fc] 28) := ⟨_, rfl⟩
  have b0 : Below w.heap.size w W0 := by rw [hW0]; exact balloc _
  have X0 : W0.heap[w.heap.size]? = some (.cells #[.int .i64 rk, .int .i64 ri, .string rt, .slice la ln lc, .slice fa fn fc] 28 (0, 0)) := by rw [hW0]; exact heap_alloc_new w _
  have hs : W0.heap.size = w.heap.size + 1 := by rw [hW0]; simp
  obtain ⟨W1, hW1⟩ : ∃ W1, W1 = W0.alloc (.cells #[.int .i64 n0] 3) := ⟨_, rfl⟩
  have b1 : Below W0.heap.size W0 W1 := by rw [hW1]; exact balloc _
  have X1 := below_block b1 (lt_of_block X0) X0
  have Z1 : Hid (Cnt (w.heap.size + 1) n0 W1) := hid_mk (by have h := heap_alloc_new W0 (.cells #[.int .i64 n0] 3); rw [hs] at h; rw [hW1]; exact h)
  have B1 := hid_mk (bthen b0 b1)
  have HR := hid_mk ((R.below b0).below b1)
  have P5 := hid_mk ((p5.below b0).below b1)
  have hW : (w.alloc (.cells #[.int .i64 rk, .int .i64 ri, .string rt, .slice la ln lc, .slice fa fn fc] 28)).alloc (.cells #[.int .i64 n0] 3) = W1 := by rw [hW1, hW0]
  have HW := hid_mk hW
  have HX1 := hid_mk X1
  have hz1 : w.heap.size + 1 < W1.heap.size := lt_of_block Z1.out
  have HN1 := hid_mk hn1
  have hcx : ¬ w.heap.size = w.heap.size + 1 := fun e => by have := congrArg (· - w.heap.size) e; simp at this
  simp only [Rv.agg, Sl.v]
  clear R IH b0 b1 X0 X1 hW0 hW1 hs hW p5 hn1
  by_cases h3 : rk = 3
  · subst h3
    have hk5 : ¬ v.k = 5 := fun e => absurd (p1.trans e) (by decide)
    have hnn : wrap64 (1 + (rt.size : Int)) = n0 := by rw [hn0, if_pos p1.symm, p3]
    have HNN := hid_mk hnn
    have HV2 : Hid (sizeV (d + 1) v = n1) := hid_mk (by rw [HV.out, if_neg hk5]; rfl)
    clear p1 p3 hn0 hnn hk5 P5
    go_enter Tryd.func12, Tryd.ntmps12
    go_wp2_with fail
    simp only [HNN.out, HW.out]
    refine (inner_size d (w.heap.size + 1) _ (HS.out _) v ⟨3, ri, rt, ⟨la, ln, lc⟩, ⟨fa, fn, fc⟩⟩ n0 _ HR.out Z1.out).mono ?_
    rintro e w4 ⟨rfl, Z4, b4⟩
    rw [← HN1.out] at Z4
    have z0 := Z4.at0
    have X4 := b4.at_ HX1.out hcx
    have x0 := (cell_of_row _ _ 0 _ _ _ X4).trans rfl
    have HB4 := hid_mk b4
    clear Z4 b4 X4
    go_wp2_with fail
    go_ret
    exact ⟨ret_int HV2.out.symm, B1.out.trans (HB4.out.below (Nat.le_succ _) B1.out.size)⟩
  · have g3 : (rk == 3) = false := beq_eq_false_iff_ne.2 h3
    obtain rfl : n0 = 1 := by rw [hn0, if_neg (fun e => h3 (p1.trans e))]
    by_cases h5 : rk = 5
    · subst h5
      have HV2 : Hid (sizeV (d + 1) v = nameSum v.f n1) := hid_mk (by rw [HV.out, if_pos p1.symm])
      obtain ⟨l, hl⟩ : ∃ l, l = v.f := ⟨_, rfl⟩
      rw [← hl] at HV2 P5
      obtain ⟨e1, q1, q2, HA⟩ := P5.out.at_
      simp only at e1 q1 q2
      subst e1
      clear p1 p3 hn0 hl HA HV
      go_enter Tryd.func12, Tryd.ntmps12
      go_wp2_with fail
      simp only [HW.out]
      refine (inner_size d (w.heap.size + 1) _ (HS.out _) v ⟨5, ri, rt, ⟨la, ln, lc⟩, ⟨fa, l.length, fc⟩⟩ 1 _ HR.out Z1.out).mono ?_
      rintro e w4 ⟨rfl, Z4, b4⟩
      rw [← HN1.out] at Z4
      have X4 := b4.at_ HX1.out hcx
      have x0 := (cell_of_row _ _ 0 _ _ _ X4).trans rfl
      have x4 := (cell_of_row _ _ 4 _ _ _ X4).trans rfl
      have HB4 : Hid (But (w.heap.size + 1) W1 w4) := hid_mk b4
      have HZ4 := hid_mk Z4
      have HF4 := hid_mk (P5.out.but Z1.out b4)
      clear Z4 b4 X4 P5 HR Z1 HX1 HS HN1
      go_wp2_with fail
      go_loopw [23] (fun iv wr => ∃ (k : Nat) (n : Int), iv = .int .i64 k ∧ k ≤ l.length ∧ Hid (n = nameSum (l.take k) n1) ∧ Hid (RowF d wr l ⟨fa, l.length, fc⟩) ∧ Hid (Cnt (w.heap.size + 1) n wr) ∧ Hid (But (w.heap.size + 1) W1 wr)) (fun iv _ => l.length - (intOf iv).toNat)
      case atStart => exact ⟨0, n1, rfl, Nat.zero_le _, rfl, HF4, HZ4, HB4⟩
      case round =>
        clear HF4 HZ4 HB4 x0 x4
        obtain ⟨k, n, rfl, hk, HN, HR, HZ, HB⟩ := hrel
        by_cases hlt : k < l.length
        · obtain ⟨_, _, _, HA⟩ := HR.out.at_
          obtain ⟨gg, hga, hgl, hcc⟩ := HA (by omega)
          obtain ⟨x, hnm, hx, c0, c1, c2, c3, c4, c5⟩ := hcc k hlt
          obtain ⟨xs, xk, xi, xt, ⟨xa, xn, xc⟩, ⟨ya, yn, yc⟩⟩ := x
          simp only [Sl.v] at c0 c1 c2 c3 c4 c5 hga hnm
          subst hga
          have bz := balloc (w := wr) (.cells #[.string xs, .int .i64 xk, .int .i64 xi, .string xt, .slice xa xn xc, .slice ya yn yc] 31)
          have k0 : (0 : Int) ≤ (k : Int) := by omega
          have k1 : (k : Int) < (l.length : Int) := by omega
          have hzr : w.heap.size + 1 < wr.heap.size := lt_of_block HZ.out
          have Z2 := HZ.out.below bz
          have z2 := Z2.at0
          have zf : (wr.alloc (.cells #[.string xs, .int .i64 xk, .int .i64 xi, .string xt, .slice xa xn xc, .slice ya yn yc] 31)).frozen? ⟨w.heap.size + 1, 0, none⟩ = false := by have h9 := Z2; unfold Cnt at h9; simp only [World.frozen?, h9]; rfl
          obtain ⟨N, hN⟩ : ∃ N, N = wrap64 (n + (xs.size : Int)) := ⟨_, rfl⟩
          have Z3 : Hid (Cnt (w.heap.size + 1) N ((wr.setCell ⟨w.heap.size + 1, 0, none⟩ (.int .i64 N)).alloc (.cells #[.string xs, .int .i64 xk, .int .i64 xi, .string xt, .slice xa xn xc, .slice ya yn yc] 31))) := hid_mk (Cnt.below (block_setCell HZ.out 0 (.int .i64 N) (by simp)) (balloc _))
          have B3 : But (w.heap.size + 1) wr ((wr.setCell ⟨w.heap.size + 1, 0, none⟩ (.int .i64 N)).alloc (.cells #[.string xs, .int .i64 xk, .int .i64 xi, .string xt, .slice xa xn xc, .slice ya yn yc] 31)) := But.trans (Mv.setCell (F := fun k => k = w.heap.size + 1) (a := ⟨w.heap.size + 1, 0, none⟩) _ rfl) (But.of_below (balloc _))
          have HR3 := hid_mk (HR.out.but HZ.out B3)
          have HB3 := hid_mk (HB.out.trans B3)
          have HN3 : Hid (N = nameSum (l.take (k + 1)) n1) := hid_mk (by rw [hN, ← hnm]; exact name_step hlt HN.out)
          have HNN := hid_mk hN.symm
          clear hcc hx HA HR HZ HB bz hnm Z2 B3 hN HN
          go_wp2_with fail
          try simp only [IntWalk.i64_left]
          try simp only [HNN.out]
          refine ⟨⟨k + 1, N, ?_, by omega, HN3, HR3, Z3, HB3⟩, ?_⟩
          · go_num
          · simp [intOf]
            omega
        · obtain rfl : k = l.length := by omega
          have hn : n = nameSum l n1 := by have := HN.out; rwa [List.take_length] at this
          subst hn
          have z0 := HZ.out.at0
          go_wp2_with fail
          go_ret
          exact ⟨ret_int HV2.out.symm, B1.out.trans (HB.out.below (Nat.le_succ _) B1.out.size)⟩
    · have g5 : (rk == 5) = false := beq_eq_false_iff_ne.2 h5
      have HV2 : Hid (sizeV (d + 1) v = n1) := hid_mk (by rw [HV.out, if_neg (fun e => h5 (p1.trans e))]; rfl)
      clear p1 p3 hn0 P5 HV
      go_enter Tryd.func12, Tryd.ntmps12
      go_wp2_with fail
      simp only [HW.out]
      refine (inner_size d (w.heap.size + 1) _ (HS.out _) v ⟨rk, ri, rt, ⟨la, ln, lc⟩, ⟨fa, fn, fc⟩⟩ 1 _ HR.out Z1.out).mono ?_
      rintro e w4 ⟨rfl, Z4, b4⟩
      rw [← HN1.out] at Z4
      have z0 := Z4.at0
      have X4 := b4.at_ HX1.out hcx
      have x0 := (cell_of_row _ _ 0 _ _ _ X4).trans rfl
      have HB4 := hid_mk b4
      clear Z4 b4 X4
      go_wp2_with fail
      go_ret
      exact ⟨ret_int HV2.out.symm, B1.out.trans (HB4.out.below (Nat.le_succ _) B1.out.size)⟩
theorem size_any : ∀ d, SizeSaid d
  | 0 => fun _ _ _ h => h.elim
  | d + 1 => size_step d (size_any d)

end Go.Proofs.YtmeebjjdceokeaaDoor
