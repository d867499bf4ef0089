/- The walk over the law WalkMarks. -/
import Derived.Test.YtanomhjekdefeaaWalkI
namespace Go.Proofs.Ytanomhjekdefeaa
open Go.RowKit
set_option linter.unusedVariables false
attribute [local go_sem ↓] Go.wp_at_zero Go.wp_at_succ

theorem law_norm (L : List E) (r : Rg) (m : Mk) : lawN L r m.norm = lawN L r m := by
  unfold Mk.norm
  cases hb : m.b with
  | true => rfl
  | false =>
    simp only [Bool.false_eq_true, if_false]
    unfold lawN
    refine congrArg fz (find_all fun x _ => ?_)
    unfold pastE
    rw [hb]
    rfl

set_option maxHeartbeats 4000000 in
set_option maxRecDepth 100000 in
theorem walkmarks_walk (A : Option Addr) (n cap : Nat) (xs : List A8) (r : Rg) (near : Bool) (x : A8) (m : Mk) (w : World) (hin : InA8 w A n cap xs) (hx : x.ok) :
    Calls Try.prog 8 #[.slice A n cap, .agg #[.string r.f, .string r.t, .bool r.dn], .bool near, .agg #[.int .u8 x.kind, .int .u8 x.key, .int .u8 x.id], .agg #[.string m.e.key, .int .i64 m.e.id, .bool m.b]] w fun e w' => e = .returned (.bool true) ∧ Below w.heap.size w w' := by
  have HIN := hid_mk hin
  have HO := hid_mk hx
  obtain ⟨rf, rt, rd⟩ := r
  obtain ⟨me, mb⟩ := m
  clear hin hx
  go_enter Try.func8, Try.ntmps8
  go_wp2_with fail
  obtain ⟨w0, hw0⟩ : ∃ w0, w0 = ((w.alloc (.cells #[.string rf, .string rt, .bool rd] 29)).alloc (.cells #[.int .u8 x.kind, .int .u8 x.key, .int .u8 x.id] 38)).alloc (.cells #[.string me.key, .int .i64 me.id, .bool mb] 36) := ⟨_, rfl⟩
  rw [← hw0]
  have B0 : Below w.heap.size w w0 := by rw [hw0]; exact bthen (bthen (balloc _) (balloc _)) (balloc _)
  have X0 : Hid (w0.heap[w.heap.size]? = some (.cells #[.string rf, .string rt, .bool rd] 29 (0, 0)) ∧ w0.heap[w.heap.size + 1]? = some (.cells #[.int .u8 x.kind, .int .u8 x.key, .int .u8 x.id] 38 (0, 0)) ∧ w0.heap[w.heap.size + 1 + 1]? = some (.cells #[.string me.key, .int .i64 me.id, .bool mb] 36 (0, 0))) := by
    have q1 : (w.alloc (.cells #[.string rf, .string rt, .bool rd] 29)).heap.size = w.heap.size + 1 := by simp
    have q2 : ((w.alloc (.cells #[.string rf, .string rt, .bool rd] 29)).alloc (.cells #[.int .u8 x.kind, .int .u8 x.key, .int .u8 x.id] 38)).heap.size = w.heap.size + 1 + 1 := by simp
    refine hid_mk ⟨?_, ?_, ?_⟩
    · rw [hw0, heap_alloc_old _ _ (by omega), heap_alloc_old _ _ (by omega)]; exact heap_alloc_new w _
    · rw [hw0, heap_alloc_old _ _ (by omega)]
      have h9 := heap_alloc_new (w.alloc (.cells #[.string rf, .string rt, .bool rd] 29)) (.cells #[.int .u8 x.kind, .int .u8 x.key, .int .u8 x.id] 38)
      rw [q1] at h9; exact h9
    · rw [hw0]
      have h9 := heap_alloc_new ((w.alloc (.cells #[.string rf, .string rt, .bool rd] 29)).alloc (.cells #[.int .u8 x.kind, .int .u8 x.key, .int .u8 x.id] 38)) (.cells #[.string me.key, .int .i64 me.id, .bool mb] 36)
      rw [q2] at h9; exact h9
  clear hw0
  refine (wawake_any _).mono ?_
  rintro e w1 ⟨rfl, b1⟩
  have B1 := bthen B0 b1
  have X1 := hid_mk (And.intro (below_block b1 (lt_of_block X0.out.1) X0.out.1) (And.intro (below_block b1 (lt_of_block X0.out.2.1) X0.out.2.1) (below_block b1 (lt_of_block X0.out.2.2) X0.out.2.2)))
  have HIN1 := hid_mk (HIN.out.below B1)
  clear X0 B0 b1
  go_wp2_with fail
  refine (laid_any A n cap xs _ HIN1.out).mono ?_
  rintro e w2 ⟨p, u, L, F, rfl, T2, R2, -, hL, hE, b2⟩
  have B2 := bthen B1 b2
  have X2 := hid_mk (And.intro (below_block b2 (lt_of_block X1.out.1) X1.out.1) (And.intro (below_block b2 (lt_of_block X1.out.2.1) X1.out.2.1) (below_block b2 (lt_of_block X1.out.2.2) X1.out.2.2)))
  have HT2 := hid_mk T2
  have HR2 := hid_mk R2
  have HLOW := hid_mk hE.low
  have HS := hid_mk T2.srt
  have hs2 : w.heap.size + 1 + 1 < w1.heap.size := lt_of_block X1.out.2.2
  clear T2 R2 hE X1 B1 b2 HIN1 HIN
  go_upto_if 25 with fail
  have t0 : w2.cell? ⟨w.heap.size + 1, 0, none⟩ = some (.int .u8 x.kind) := (cell_of_row w2 _ 0 _ _ _ X2.out.2.1).trans rfl
  have t1 : w2.cell? ⟨w.heap.size + 1, 1, none⟩ = some (.int .u8 x.key) := (cell_of_row w2 _ 1 _ _ _ X2.out.2.1).trans rfl
  have t2 : w2.cell? ⟨w.heap.size + 1, 2, none⟩ = some (.int .u8 x.id) := (cell_of_row w2 _ 2 _ _ _ X2.out.2.1).trans rfl
  go_cut [] (fun wx => ∃ mm : Mk, Hid (wx.heap[w.heap.size + 1 + 1]? = some (.cells #[.string mm.e.key, .int .i64 mm.e.id, .bool mm.b] 36 (0, 0))) ∧ Hid (wx.heap[w.heap.size]? = some (.cells #[.string rf, .string rt, .bool rd] 29 (0, 0))) ∧ Hid (Tree w1.heap.size wx p L F) ∧ Hid (Rw w1.heap.size wx 34 2 u L.length (ecells L)) ∧ Hid (Below w.heap.size w wx))
  case first =>
    cases near with
    | false =>
      go_wp2_with fail
      go_meet
      case rel => exact ⟨⟨me, mb⟩, hid_mk X2.out.2.2, hid_mk X2.out.1, HT2, HR2, hid_mk B2⟩
    | true =>
      go_wp2_with fail
      refine (entry_any x _ HO.out).mono ?_
      rintro e w3 ⟨rfl, b3⟩
      obtain ⟨q, hq⟩ : ∃ q, q = x.ent := ⟨_, rfl⟩
      rw [← hq]
      have Y3 := below_block b3 (lt_of_block X2.out.2.2) X2.out.2.2
      have Z3 := hid_mk (below_block b3 (lt_of_block X2.out.1) X2.out.1)
      have k0 : w3.cell? ⟨w.heap.size + 1 + 1, 0, none⟩ = some (.string me.key) := (cell_of_row w3 _ 0 _ _ _ Y3).trans rfl
      have k1 : w3.cell? ⟨w.heap.size + 1 + 1, 1, none⟩ = some (.int .i64 me.id) := (cell_of_row w3 _ 1 _ _ _ Y3).trans rfl
      have kf0 : w3.frozen? ⟨w.heap.size + 1 + 1, 0, none⟩ = false := by simp [World.frozen?, Y3]
      have kf1 : w3.frozen? ⟨w.heap.size + 1 + 1, 1, none⟩ = false := by simp [World.frozen?, Y3]
      have HNF : ¬ F (w.heap.size + 1 + 1) := fun h9 => by have := (HT2.out.foot _ h9).1; omega
      have T4 := hid_mk (tree_cell (tree_cell (HT2.out.below b3) HNF 0 (.string q.key)) HNF 1 (.int .i64 q.id))
      have HNO : ¬ own u (w.heap.size + 1 + 1) := fun h9 => by have := (HR2.out.lt _ h9).1; omega
      have R4 := hid_mk (((HR2.out.below b3).setCell_other ⟨w.heap.size + 1 + 1, 0, none⟩ (.string q.key) HNO).setCell_other ⟨w.heap.size + 1 + 1, 1, none⟩ (.int .i64 q.id) HNO)
      have Y4 := hid_mk (block_setCell (block_setCell Y3 0 (.string q.key) (by simp)) 1 (.int .i64 q.id) (by simp))
      have B4 := hid_mk (((bthen B2 b3).setCell (p := ⟨w.heap.size + 1 + 1, 0, none⟩) (by simp; omega) (.string q.key)).setCell (p := ⟨w.heap.size + 1 + 1, 1, none⟩) (by simp; omega) (.int .i64 q.id))
      have Z4 : Hid (((w3.setCell ⟨w.heap.size + 1 + 1, 0, none⟩ (.string q.key)).setCell ⟨w.heap.size + 1 + 1, 1, none⟩ (.int .i64 q.id)).heap[w.heap.size]? = _) := hid_mk (((heap_setCell_other _ _ _ _ (show w.heap.size ≠ w.heap.size + 1 + 1 by omega)).trans (heap_setCell_other _ _ _ _ (show w.heap.size ≠ w.heap.size + 1 + 1 by omega))).trans Z3.out)
      clear Y3 b3 hq t0 t1 t2 HNF HNO
      go_wp2_with fail
      go_meet
      case rel => exact ⟨⟨q, mb⟩, Y4, Z4, T4, R4, B4⟩
  case rest =>
    obtain ⟨mm, Y, Z, T, R, hb⟩ := hcut
    have m0 : wc.cell? ⟨w.heap.size + 1 + 1, 0, none⟩ = some (.string mm.e.key) := (cell_of_row wc _ 0 _ _ _ Y.out).trans rfl
    have m1 : wc.cell? ⟨w.heap.size + 1 + 1, 1, none⟩ = some (.int .i64 mm.e.id) := (cell_of_row wc _ 1 _ _ _ Y.out).trans rfl
    have m2 : wc.cell? ⟨w.heap.size + 1 + 1, 2, none⟩ = some (.bool mm.b) := (cell_of_row wc _ 2 _ _ _ Y.out).trans rfl
    have r0 : wc.cell? ⟨w.heap.size, 0, none⟩ = some (.string rf) := (cell_of_row wc _ 0 _ _ _ Z.out).trans rfl
    have r1 : wc.cell? ⟨w.heap.size, 1, none⟩ = some (.string rt) := (cell_of_row wc _ 1 _ _ _ Z.out).trans rfl
    have r2 : wc.cell? ⟨w.heap.size, 2, none⟩ = some (.bool rd) := (cell_of_row wc _ 2 _ _ _ Z.out).trans rfl
    clear t0 t1 t2 X2 HT2 HR2 B2
    go_wp2_with fail
    refine (resume_any p ⟨rf, rt, rd⟩ mm _).mono ?_
    rintro e w3 ⟨q, rfl, W3, hq, b3⟩
    have HW3 := hid_mk (Wt.fresh T.out b3 W3 hq)
    have R3 := hid_mk (R.out.below b3)
    have B3 := bthen hb.out b3
    have M3 := hid_mk (below_block b3 (lt_of_block Y.out) Y.out)
    have Z3 := hid_mk (below_block b3 (lt_of_block Z.out) Z.out)
    have HQ : Hid (w.heap.size + 1 + 1 < q) := hid_mk (by have := lt_of_block Y.out; omega)
    have HQR : Hid (Apart u fun k => k = q) := hid_mk fun k hk hf => by have := (R.out.lt k hk).2; omega
    clear W3 hq b3 T R hb Y Z m0 m1 m2 r0 r1 r2
    go_wp2_with fail
    refine (wnext_any w1.heap.size p q L F ⟨rf, rt, rd⟩ mm.norm _ HW3.out).mono ?_
    rintro e w4 ⟨rfl, W4, m4⟩
    rw [next_eq HS.out HLOW.out, law_norm]
    obtain ⟨z, hz⟩ : ∃ z, z = lawN L ⟨rf, rt, rd⟩ mm := ⟨_, rfl⟩
    rw [← hz]
    have HZ := hid_mk hz
    have bz : Below w4.heap.size w4 (w4.alloc (.cells #[.string z.1.key, .int .i64 z.1.id] 34)) := balloc _
    have R4 := hid_mk ((m4.rw_ R3.out HQR.out).below bz)
    have M4 := below_block bz (lt_of_block (m4.at_ M3.out (by have := HQ.out; omega))) (m4.at_ M3.out (by have := HQ.out; omega))
    have Z4 := below_block bz (lt_of_block (m4.at_ Z3.out (by have := HQ.out; omega))) (m4.at_ Z3.out (by have := HQ.out; omega))
    have Y4 := hid_mk (heap_alloc_new w4 (.cells #[.string z.1.key, .int .i64 z.1.id] 34))
    have B4 := hid_mk (bthen (B3.trans ((HW3.out.moved m4).mono (by have := HW3.out.tree.size; omega))) bz)
    have m0 : (w4.alloc (.cells #[.string z.1.key, .int .i64 z.1.id] 34)).cell? ⟨w.heap.size + 1 + 1, 0, none⟩ = some (.string mm.e.key) := (cell_of_row _ _ 0 _ _ _ M4).trans rfl
    have m1 : (w4.alloc (.cells #[.string z.1.key, .int .i64 z.1.id] 34)).cell? ⟨w.heap.size + 1 + 1, 1, none⟩ = some (.int .i64 mm.e.id) := (cell_of_row _ _ 1 _ _ _ M4).trans rfl
    have m2 : (w4.alloc (.cells #[.string z.1.key, .int .i64 z.1.id] 34)).cell? ⟨w.heap.size + 1 + 1, 2, none⟩ = some (.bool mm.b) := (cell_of_row _ _ 2 _ _ _ M4).trans rfl
    have r0 : (w4.alloc (.cells #[.string z.1.key, .int .i64 z.1.id] 34)).cell? ⟨w.heap.size, 0, none⟩ = some (.string rf) := (cell_of_row _ _ 0 _ _ _ Z4).trans rfl
    have r1 : (w4.alloc (.cells #[.string z.1.key, .int .i64 z.1.id] 34)).cell? ⟨w.heap.size, 1, none⟩ = some (.string rt) := (cell_of_row _ _ 1 _ _ _ Z4).trans rfl
    have r2 : (w4.alloc (.cells #[.string z.1.key, .int .i64 z.1.id] 34)).cell? ⟨w.heap.size, 2, none⟩ = some (.bool rd) := (cell_of_row _ _ 2 _ _ _ Z4).trans rfl
    clear hz W4 m4 bz M4 Z4 HW3 R3 B3 M3 Z3
    go_wp2_with fail
    refine (lnext_any w1.heap.size L u ⟨rf, rt, rd⟩ mm _ R4.out (by omega)).mono ?_
    rintro e w5 ⟨rfl, b5⟩
    rw [← HZ.out]
    have y5 := below_block b5 (by simp) Y4.out
    have y0 : w5.cell? ⟨w4.heap.size, 0, none⟩ = some (.string z.1.key) := (cell_of_row _ _ 0 _ _ _ y5).trans rfl
    have y1 : w5.cell? ⟨w4.heap.size, 1, none⟩ = some (.int .i64 z.1.id) := (cell_of_row _ _ 1 _ _ _ y5).trans rfl
    have h45 : ¬ w5.heap.size = w4.heap.size := by have := lt_of_block y5; omega
    have h54 : ¬ w4.heap.size = w5.heap.size := by omega
    have hb5 := bthen B4.out b5
    have bz : Below w5.heap.size w5 (w5.alloc (.cells #[.string z.1.key, .int .i64 z.1.id] 34)) := balloc _
    have y0' := keep_cell bz y0
    have y1' := keep_cell bz y1
    have hb6 := bthen hb5 bz
    clear y5 b5 m0 m1 m2 r0 r1 r2 bz hb5
    go_wp2_with fail
    go_ret
    exact ⟨rfl, hb6⟩

end Go.Proofs.Ytanomhjekdefeaa
