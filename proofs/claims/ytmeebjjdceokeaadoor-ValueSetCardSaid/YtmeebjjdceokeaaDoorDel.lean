/- A value without a field. -/
import Derived.Test.YtmeebjjdceokeaaDoorAt
import Derived.Test.YtmeebjjdceokeaaDoorClone
namespace Go.Proofs.YtmeebjjdceokeaaDoor
open Go.RowKit
set_option linter.unusedVariables false
attribute [local go_sem ↓] Go.wp_at_zero Go.wp_at_succ

theorem All2.take {α β : Type} {R : α → β → Prop} {xs : List α} {ys : List β} (h : All2 R xs ys) : ∀ k, All2 R (xs.take k) (ys.take k) := by
  induction h with
  | nil => intro k; simp; exact .nil
  | cons h1 _ ih =>
    intro k
    cases k with
    | zero => exact .nil
    | succ k => exact .cons h1 (ih k)
theorem All2.drop {α β : Type} {R : α → β → Prop} {xs : List α} {ys : List β} (h : All2 R xs ys) : ∀ k, All2 R (xs.drop k) (ys.drop k) := by
  induction h with
  | nil => intro k; simp; exact .nil
  | cons h1 h2 ih =>
    intro k
    cases k with
    | zero => exact .cons h1 h2
    | succ k => exact ih k
theorem All2.append {α β : Type} {R : α → β → Prop} {xs xt : List α} {ys yt : List β} (h : All2 R xs ys) (k : All2 R xt yt) : All2 R (xs ++ xt) (ys ++ yt) := by
  induction h with
  | nil => exact k
  | cons h1 _ ih => exact .cons h1 ih
def delV (v : V) (name : ByteArray) : V := if 0 ≤ atV v name then .mk v.k v.i v.t v.l (v.f.take (atV v name).toNat ++ v.f.drop ((atV v name).toNat + 1)) else v
/-- A reading with other fields. -/
theorem RdW.fields {d : Nat} {w wf : World} {v : V} {r : Rv} (h : RdW (d + 1) w v r) (b : Below w.heap.size w wf) (l : List (ByteArray × V)) (qs : List Fv) (s : Sl) (hq : All2 (fun x y => x.1 = y.1 ∧ RdW d wf x.2 y.2) l qs)
    (hr : Rw 0 wf 31 6 s.v l.length (fcells qs)) : RdW (d + 1) wf (.mk v.k v.i v.t v.l l) ⟨r.k, r.i, r.t, r.l, s⟩ := by
  have h' := h.below b
  obtain ⟨h1, h2, h3, h4, _⟩ := h'
  exact ⟨h1, h2, h3, h4, ⟨qs, hq, hr, fun k hk => (hr.lt k hk).2⟩⟩
theorem RdW.frow {d : Nat} {w : World} {v : V} {r : Rv} (h : RdW (d + 1) w v r) : ∃ qs, All2 (fun (x : ByteArray × V) (y : Fv) => x.1 = y.1 ∧ RdW d w x.2 y.2) v.f qs ∧ Rw 0 w 31 6 r.f.v v.f.length (fcells qs) := by
  obtain ⟨_, _, _, _, ⟨qs, b1, b2, _⟩⟩ := h
  exact ⟨qs, b1, b2⟩

set_option maxHeartbeats 2000000 in
set_option maxRecDepth 100000 in
theorem del_any (d : Nat) (v : V) (r : Rv) (name : ByteArray) (w : World) (R : RdW (d + 1) w v r) (hbig : v.f.length < 1000000000) :
    Calls Tryd.prog 19 #[r.agg, .string name] w fun e w' => ∃ rx, e = .returned (.tuple #[Rv.agg rx, .bool (decide (0 ≤ atV v name))]) ∧ RdW (d + 1) w' (delV v name) rx ∧ Below w.heap.size w w' := by
  obtain ⟨qs, a1, a2⟩ := R.frow
  have HR := hid_mk R
  obtain ⟨rk, ri, rt, ⟨la, ln, lc⟩, ⟨fa, fn, fc⟩⟩ := r
  obtain ⟨W1, hW1⟩ : ∃ W1, W1 = (w.alloc (.cells #[.int .i64 rk, .int .i64 ri, .string rt, .slice la ln lc, .slice fa fn fc] 28)).alloc (.cells #[.int .i64 0, .int .i64 0, .string ⟨#[]⟩, .slice none 0 0, .slice none 0 0] 28) := ⟨_, rfl⟩
  have b1 : Below w.heap.size w W1 := by rw [hW1]; exact bthen (balloc _) (balloc _)
  have X0 : W1.heap[w.heap.size]? = some (.cells #[.int .i64 rk, .int .i64 ri, .string rt, .slice la ln lc, .slice fa fn fc] 28 (0, 0)) := by
    rw [hW1]; exact below_block (balloc _) (by simp) (heap_alloc_new w _)
  have X1 : W1.heap[w.heap.size + 1]? = some (.cells #[.int .i64 0, .int .i64 0, .string ⟨#[]⟩, .slice none 0 0, .slice none 0 0] 28 (0, 0)) := by
    have h := heap_alloc_new (w.alloc (.cells #[.int .i64 rk, .int .i64 ri, .string rt, .slice la ln lc, .slice fa fn fc] 28)) (.cells #[.int .i64 0, .int .i64 0, .string ⟨#[]⟩, .slice none 0 0, .slice none 0 0] 28)
    rw [← hW1, World.size_alloc] at h
    exact h
  have HR1 := hid_mk (R.below b1)
  have HX0 := hid_mk X0
  have HX1 := hid_mk X1
  have B1 := hid_mk b1
  have HW := hid_mk hW1.symm
  have HA1 := hid_mk a1
  have HA2 := hid_mk a2
  have HRG := hid_mk (atV_range v name)
  simp only [Rv.agg, Sl.v]
  have y0 := (cell_of_row W1 _ 0 _ _ _ X0).trans rfl
  have y1 := (cell_of_row W1 _ 1 _ _ _ X0).trans rfl
  have y2 := (cell_of_row W1 _ 2 _ _ _ X0).trans rfl
  have y3 := (cell_of_row W1 _ 3 _ _ _ X0).trans rfl
  have y4 := (cell_of_row W1 _ 4 _ _ _ X0).trans rfl
  clear R b1 hW1 X0 X1 a1 a2
  go_enter Tryd.func19, Tryd.ntmps19
  go_wp2_with fail
  rw [HW.out]
  refine (at_any d v ⟨rk, ri, rt, ⟨la, ln, lc⟩, ⟨fa, fn, fc⟩⟩ name _ HR1.out).mono ?_
  rintro e w4 ⟨rfl, b4⟩
  have Z0 := below_block b4 (lt_of_block HX0.out) HX0.out
  have Z1 := below_block b4 (lt_of_block HX1.out) HX1.out
  have HB4 := hid_mk (bthen B1.out b4)
  have x0 := (cell_of_row w4 _ 0 _ _ _ Z0).trans rfl
  have x1 := (cell_of_row w4 _ 1 _ _ _ Z0).trans rfl
  have x2 := (cell_of_row w4 _ 2 _ _ _ Z0).trans rfl
  have x3 := (cell_of_row w4 _ 3 _ _ _ Z0).trans rfl
  have x4 := (cell_of_row w4 _ 4 _ _ _ Z0).trans rfl
  have k0 := (cell_of_row w4 _ 0 _ _ _ Z1).trans rfl
  have k1 := (cell_of_row w4 _ 1 _ _ _ Z1).trans rfl
  have k2 := (cell_of_row w4 _ 2 _ _ _ Z1).trans rfl
  have k3 := (cell_of_row w4 _ 3 _ _ _ Z1).trans rfl
  have k4 := (cell_of_row w4 _ 4 _ _ _ Z1).trans rfl
  have f0 : ∀ j, w4.frozen? ⟨w.heap.size + 1, j, none⟩ = false := fun j => by simp [World.frozen?, Z1]
  have HZ0 := hid_mk Z0
  have HZ1 := hid_mk Z1
  rcases HRG.out with hm | ⟨hk5, k, hk, hkl, hkn⟩
  · have HG : Hid (delV v name = v) := hid_mk (if_neg (by rw [hm]; omega))
    have HD : Hid (decide (0 ≤ atV v name) = false) := hid_mk (by rw [hm]; rfl)
    rw [hm]
    clear b4 Z0 Z1 HX0 HX1 y0 y1 y2 y3 y4 hm
    go_wp2_with fail
    (try simp only [Exit.inBlock, Exit.then])
    refine bodyPost_ret (v := .tuple #[(⟨rk, ri, rt, ⟨la, ln, lc⟩, ⟨fa, fn, fc⟩⟩ : Rv).agg, .bool false]) ?_ rfl ?_
    · simp [results, Tryd.results19, go_sem, Rv.agg, Sl.v, *]
    · have hf := set5v (b := w.heap.size + 1) (Nat.le_succ _) (v0 := .int .i64 rk) (v1 := .int .i64 ri) (v2 := .string rt) (v3 := .slice la ln lc) (v4 := .slice fa fn fc) HB4.out
      exact ⟨⟨rk, ri, rt, ⟨la, ln, lc⟩, ⟨fa, fn, fc⟩⟩, by rw [HD.out]; rfl, by rw [HG.out]; exact RdW.below HR.out hf, hf⟩
  · have HG : Hid (delV v name = .mk v.k v.i v.t v.l (v.f.take k ++ v.f.drop (k + 1))) := hid_mk (by
      unfold delV
      rw [if_pos (by rw [hk]; omega), hk, Int.toNat_natCast])
    have HD : Hid (decide (0 ≤ atV v name) = true) := hid_mk (decide_eq_true (by rw [hk]; omega))
    have hwk : IntKind.i64.wrap ((k : Int) + 1) = (k : Int) + 1 := by rw [IntKind.wrap_i64]; omega
    have hk0 : ¬ (k : Int) < 0 := by omega
    have HKL := hid_mk hkl
    rw [hk]
    clear b4 Z0 Z1 HX0 HX1 y0 y1 y2 y3 y4 hk hkn hk5 x0 x1 x2 x3 k0 k1 k2 k3 k4 f0
    go_wp2_with fail
    refine (clone_any 0 v.f.length (.slice fa fn fc) (fcells qs) _ (HA2.out.below HB4.out) (fcells_one qs) (by omega)).mono ?_
    rintro e w5 ⟨v5, rfl, R5, b5⟩
    have HR5 := hid_mk R5
    have HB5 := hid_mk b5
    clear R5 b5
    go_wp2_with fail
    refine (deleteF_any w4.heap.size v5 v.f.length k _ _ (fcells qs) _ HR5.out (fcells_one qs) HKL.out (by omega) rfl rfl (fcells (qs.take k ++ qs.drop (k + 1))) (hid_mk (by rw [fcells_append, fcells_take, fcells_drop]))).mono ?_
    rintro e w6 ⟨v6, rfl, R6, m6⟩
    have B6 : Below w4.heap.size w4 w6 := HB5.out.trans (m6.below (fun k hk => (HR5.out.lt k hk).1) HB5.out.size)
    have HB6 := hid_mk (bthen HB4.out B6)
    have Z0 := below_block B6 (lt_of_block HZ0.out) HZ0.out
    have Z1 := below_block B6 (lt_of_block HZ1.out) HZ1.out
    have n0 : v6.ownBlock ≠ some w.heap.size := R6.ne Z0 (by decide)
    have n1 : v6.ownBlock ≠ some (w.heap.size + 1) := R6.ne Z1 (by decide)
    obtain ⟨A6, c6, rfl, _, _, _, _⟩ := R6.shape
    have HR6 := hid_mk R6
    have HN := hid_mk (And.intro n0 n1)
    have x0 := (cell_of_row w6 _ 0 _ _ _ Z0).trans rfl
    have x1 := (cell_of_row w6 _ 1 _ _ _ Z0).trans rfl
    have x2 := (cell_of_row w6 _ 2 _ _ _ Z0).trans rfl
    have x3 := (cell_of_row w6 _ 3 _ _ _ Z0).trans rfl
    have x4 := (cell_of_row w6 _ 4 _ _ _ Z0).trans rfl
    have k0 := (cell_of_row w6 _ 0 _ _ _ Z1).trans rfl
    have k1 := (cell_of_row w6 _ 1 _ _ _ Z1).trans rfl
    have k2 := (cell_of_row w6 _ 2 _ _ _ Z1).trans rfl
    have k3 := (cell_of_row w6 _ 3 _ _ _ Z1).trans rfl
    have k4 := (cell_of_row w6 _ 4 _ _ _ Z1).trans rfl
    have f0 : ∀ j, w6.frozen? ⟨w.heap.size + 1, j, none⟩ = false := fun j => by simp [World.frozen?, Z1]
    have f1 : ∀ j, w6.frozen? ⟨w.heap.size, j, none⟩ = false := fun j => by simp [World.frozen?, Z0]
    clear R6 m6 B6 Z0 Z1 n0 n1 HR5 HB5 hkl HZ0 HZ1
    go_wp2_with fail
    (try simp only [Exit.inBlock, Exit.then])
    refine bodyPost_ret (v := .tuple #[(⟨rk, ri, rt, ⟨la, ln, lc⟩, ⟨A6, v.f.length - 1, c6⟩⟩ : Rv).agg, .bool true]) ?_ rfl ?_
    · simp [results, Tryd.results19, go_sem, Rv.agg, Sl.v, *]
    · have hf := set5v (b := w.heap.size + 1) (Nat.le_succ _) (v0 := .int .i64 rk) (v1 := .int .i64 ri) (v2 := .string rt) (v3 := .slice la ln lc) (v4 := .slice A6 (v.f.length - 1) c6) (HB6.out.setCell (p := ⟨w.heap.size, 4, none⟩) (Nat.le_refl _) (.slice A6 (v.f.length - 1) c6))
      refine ⟨⟨rk, ri, rt, ⟨la, ln, lc⟩, ⟨A6, v.f.length - 1, c6⟩⟩, by rw [HD.out]; rfl, ?_, hf⟩
      rw [HG.out]
      have hlen : (v.f.take k ++ v.f.drop (k + 1)).length = v.f.length - 1 := by have := HKL.out; rw [List.length_append, List.length_take, List.length_drop]; omega
      refine HR.out.fields hf _ (qs.take k ++ qs.drop (k + 1)) ⟨A6, v.f.length - 1, c6⟩ (((HA1.out.imp fun x y h => ⟨h.1, h.2.below hf⟩).take k).append ((HA1.out.imp fun x y h => ⟨h.1, h.2.below hf⟩).drop (k + 1))) ?_
      rw [hlen]
      have q := (HR6.out.base (Nat.zero_le w4.heap.size)).setCell_other ⟨w.heap.size, 4, none⟩ (.slice A6 (v.f.length - 1) c6) HN.out.1
      exact ((((q.setCell_other ⟨w.heap.size + 1, 0, none⟩ _ HN.out.2).setCell_other ⟨w.heap.size + 1, 1, none⟩ _ HN.out.2).setCell_other ⟨w.heap.size + 1, 2, none⟩ _ HN.out.2).setCell_other ⟨w.heap.size + 1, 3, none⟩ _ HN.out.2).setCell_other ⟨w.heap.size + 1, 4, none⟩ _ HN.out.2

end Go.Proofs.YtmeebjjdceokeaaDoor
