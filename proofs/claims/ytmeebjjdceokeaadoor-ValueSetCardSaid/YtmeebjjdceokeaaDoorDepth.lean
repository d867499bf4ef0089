/- How deep a value is. -/
import Derived.Test.YtmeebjjdceokeaaDoorInner
namespace Go.Proofs.YtmeebjjdceokeaaDoor
open Go.RowKit
set_option linter.unusedVariables false
attribute [local go_sem ↓] Go.wp_at_zero Go.wp_at_succ

def mx (n m : Int) : Int := if m > n then m else n
theorem mx_run (P : Program) (n m : Int) : ∀ ats ty W, (Builtin.max_ ats ty #[.int .i64 n, .int .i64 m]).run P W = .ok (.int .i64 (mx n m)) W := by
  intro ats ty W
  simp only [Builtin.max_, List.foldlM_cons, List.foldlM_nil, Builtin.max2]
  rfl
def depthV : Nat → V → Int
  | 0, _ => 0
  | d + 1, v => (innerV v).foldl (fun n x => mx n (depthV d x)) 0 + 1
theorem fold_mx {d : Int} {f : V → Int} : ∀ (l : List V) (n : Int), 0 ≤ n → n ≤ d → (∀ x, 0 ≤ f x ∧ f x ≤ d) → 0 ≤ l.foldl (fun n x => mx n (f x)) n ∧ l.foldl (fun n x => mx n (f x)) n ≤ d
  | [], n, h0, h1, _ => ⟨h0, h1⟩
  | x :: l, n, h0, h1, h => by
    have := h x
    refine fold_mx l (mx n (f x)) ?_ ?_ h <;> (unfold mx; split <;> omega)
theorem depthV_le : ∀ d v, 0 ≤ depthV d v ∧ depthV d v ≤ (d : Int)
  | 0, _ => ⟨Int.le_refl _, Int.le_refl _⟩
  | d + 1, v => by
    have h := fold_mx (d := (d : Int)) (f := depthV d) (innerV v) 0 (Int.le_refl _) (by omega) (depthV_le d)
    show 0 ≤ (innerV v).foldl (fun n x => mx n (depthV d x)) 0 + 1 ∧ (innerV v).foldl (fun n x => mx n (depthV d x)) 0 + 1 ≤ ((d + 1 : Nat) : Int)
    omega
def DepthSaid (d : Nat) : Prop := ∀ (v : V) (r : Rv) (w : World), RdW d w v r → Calls Tryd.prog 11 #[r.agg] w fun e w' => e = .returned (.int .i64 (depthV d v)) ∧ Below w.heap.size w w'

set_option maxHeartbeats 2000000 in
set_option maxRecDepth 100000 in
theorem dclo_any (d c : Nat) (IH : DepthSaid d) : Steps d 23 c (fun n x => mx n (depthV d x)) := by
  intro x rx n W R Z
  obtain ⟨rk, ri, rt, ⟨la, ln, lc⟩, ⟨fa, fn, fc⟩⟩ := rx
  obtain ⟨W0, hW0⟩ : ∃ W0, W0 = W.alloc (.cells #[.int .i64 rk, .int .i64 ri, .string rt, .slice la ln lc, .slice fa fn fc] 28) := ⟨_, rfl⟩
  have b0 : Below W.heap.size W W0 := by rw [hW0]; exact balloc _
  have B0 := hid_mk b0
  have hcW := lt_of_block Z
  have HR : Hid (RdW d W0.drew x ⟨rk, ri, rt, ⟨la, ln, lc⟩, ⟨fa, fn, fc⟩⟩) := hid_mk ((R.below b0).below (pw_below (n := 1) (Below.refl _ _)))
  have X0 : W0.heap[W.heap.size]? = some (.cells #[.int .i64 rk, .int .i64 ri, .string rt, .slice la ln lc, .slice fa fn fc] 28 (0, 0)) := by rw [hW0]; exact heap_alloc_new W _
  have Z0 := Z.below b0
  have HZ0 := hid_mk Z0
  have HX0 := hid_mk X0
  have y0 := (cell_of_row W0 _ 0 _ _ _ X0).trans rfl
  have y1 := (cell_of_row W0 _ 1 _ _ _ X0).trans rfl
  have y2 := (cell_of_row W0 _ 2 _ _ _ X0).trans rfl
  have y3 := (cell_of_row W0 _ 3 _ _ _ X0).trans rfl
  have y4 := (cell_of_row W0 _ 4 _ _ _ X0).trans rfl
  have z0 := Z0.at0
  have HIH := hid_mk IH
  have hmx := mx_run Tryd.prog n (depthV d x)
  have hcz : c < W0.heap.size := lt_of_block Z0
  simp only [Rv.agg, Sl.v]
  clear R Z IH b0 X0 Z0
  go_enter Tryd.func23, Tryd.ntmps23
  go_wp2_with fail
  rw [← hW0]
  clear hW0
  go_region_with ((go_at_call 11; refine (HIH.out x ⟨rk, ri, rt, ⟨la, ln, lc⟩, ⟨fa, fn, fc⟩⟩ _ HR.out).mono ?_; rintro e w4 ⟨rfl, b4⟩; (have HB4 := hid_mk ((pw_below (n := 1) (Below.refl W0.heap.size W0)).trans b4)); (have Z4 := hid_mk (HZ0.out.below HB4.out)); (have k0 := Z4.out.at0); (have kf : w4.frozen? ⟨c, 0, none⟩ = false := (by have h9 := Z4.out; unfold Cnt at h9; simp [World.frozen?, h9])); clear b4))
  all_goals
    go_wp2_with fail
    first | go_end0 | (refine bodyPost_ret (results_none rfl _ _ _) rfl ?_)
    have q1 := block_setCell Z4.out 0 (.int .i64 (mx n (depthV d x))) (by simp)
    have q2 : But c W (w4.setCell ⟨c, 0, none⟩ (.int .i64 (mx n (depthV d x)))) := (But.of_below (bthen B0.out HB4.out)).trans (Mv.setCell (F := fun k => k = c) (a := ⟨c, 0, none⟩) _ rfl)
    exact ⟨rfl, q1, q2⟩

set_option maxHeartbeats 2000000 in
set_option maxRecDepth 100000 in
theorem depth_step (d : Nat) (hd : d < 1000) (IH : DepthSaid d) : DepthSaid (d + 1) := by
  intro v r w R
  have HS := hid_mk fun c => dclo_any d c IH
  obtain ⟨rk, ri, rt, ⟨la, ln, lc⟩, ⟨fa, fn, fc⟩⟩ := r
  obtain ⟨W0, hW0⟩ : ∃ W0, W0 = w.alloc (.cells #[.int .i64 rk, .int .i64 ri, .string rt, .slice la ln lc, .slice fa fn fc] 28) := ⟨_, rfl⟩
  have b0 : Below w.heap.size w W0 := by rw [hW0]; exact balloc _
  have X0 : W0.heap[w.heap.size]? = some (.cells #[.int .i64 rk, .int .i64 ri, .string rt, .slice la ln lc, .slice fa fn fc] 28 (0, 0)) := by rw [hW0]; exact heap_alloc_new w _
  have hs : W0.heap.size = w.heap.size + 1 := by rw [hW0]; simp
  obtain ⟨W1, hW1⟩ : ∃ W1, W1 = W0.alloc (.cells #[.int .i64 0] 3) := ⟨_, rfl⟩
  have b1 : Below W0.heap.size W0 W1 := by rw [hW1]; exact balloc _
  have X1 := below_block b1 (lt_of_block X0) X0
  have Z1 : Hid (Cnt (w.heap.size + 1) 0 W1) := hid_mk (by have h := heap_alloc_new W0 (.cells #[.int .i64 0] 3); rw [hs] at h; rw [hW1]; exact h)
  have B1 := hid_mk (bthen b0 b1)
  have HR := hid_mk ((R.below b0).below b1)
  have y0 := (cell_of_row W1 _ 0 _ _ _ X1).trans rfl
  have y1 := (cell_of_row W1 _ 1 _ _ _ X1).trans rfl
  have y2 := (cell_of_row W1 _ 2 _ _ _ X1).trans rfl
  have y3 := (cell_of_row W1 _ 3 _ _ _ X1).trans rfl
  have y4 := (cell_of_row W1 _ 4 _ _ _ X1).trans rfl
  have hW : (w.alloc (.cells #[.int .i64 rk, .int .i64 ri, .string rt, .slice la ln lc, .slice fa fn fc] 28)).alloc (.cells #[.int .i64 0] 3) = W1 := by rw [hW1, hW0]
  obtain ⟨m, hm⟩ : ∃ m, m = (innerV v).foldl (fun n x => mx n (depthV d x)) 0 := ⟨_, rfl⟩
  have hmb := fold_mx (d := (d : Int)) (f := depthV d) (innerV v) 0 (Int.le_refl _) (by omega) (depthV_le d)
  rw [← hm] at hmb
  have hwm : IntKind.i64.wrap (m + 1) = m + 1 := by rw [IntKind.wrap_i64]; omega
  have hwm2 : wrap64 (m + 1) = m + 1 := by unfold wrap64; omega
  have HMM := hid_mk hm
  have HW := hid_mk hW
  have hz1 : w.heap.size + 1 < W1.heap.size := lt_of_block Z1.out
  simp only [Rv.agg, Sl.v]
  clear R IH b0 b1 X0 X1 hW0 hW1 hs hm hW
  go_enter Tryd.func11, Tryd.ntmps11
  go_wp2_with fail
  rw [HW.out]
  refine (inner_depth d (w.heap.size + 1) _ (HS.out _) v ⟨rk, ri, rt, ⟨la, ln, lc⟩, ⟨fa, fn, fc⟩⟩ 0 _ HR.out Z1.out).mono ?_
  rintro e w4 ⟨rfl, Z4, b4⟩
  rw [← HMM.out] at Z4
  have z0 := Z4.at0
  have HB4 := hid_mk b4
  clear Z4 b4
  go_wp2_with fail
  go_ret
  exact ⟨ret_int (by rw [HMM.out]; rfl), B1.out.trans (HB4.out.below (by omega) B1.out.size)⟩
theorem depth_any : ∀ d, d < 1000 → DepthSaid d
  | 0, _ => fun _ _ _ h => h.elim
  | d + 1, h => depth_step d (by omega) (depth_any d (by omega))

end Go.Proofs.YtmeebjjdceokeaaDoor
