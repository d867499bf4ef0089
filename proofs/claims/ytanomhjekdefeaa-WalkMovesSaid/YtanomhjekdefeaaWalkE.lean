/- A walk: made, gone on from a mark, its mark. -/
import Derived.Test.YtanomhjekdefeaaWalkD
namespace Go.Proofs.Ytanomhjekdefeaa
open Go.RowKit
set_option linter.unusedVariables false
attribute [local go_sem ↓] Go.wp_at_zero Go.wp_at_succ

def zM : Mk := ⟨zE, false⟩
theorem wk_new {w : World} {tp n : Nat} {r : Rg} {m : Mk} (hn : n = w.heap.size) : Wk (w.alloc (.cells #[.pointer (some ⟨tp, 0, none⟩), .string r.f, .string r.t, .bool r.dn, .string m.e.key, .int .i64 m.e.id, .bool m.b] 61)) n tp r m := by
  subst hn
  exact heap_alloc_new _ _
theorem wnew_any (tp : Nat) (r : Rg) (w : World) :
    Calls Try.prog 12 #[.pointer (some ⟨tp, 0, none⟩), .agg #[.string r.f, .string r.t, .bool r.dn]] w fun e w' => ∃ q, e = .returned (.pointer (some ⟨q, 0, none⟩)) ∧ Wk w' q tp r zM ∧ w.heap.size ≤ q ∧ Below w.heap.size w w' := by
  go_enter Try.func12, Try.ntmps12
  go_wp2_with fail
  go_ret
  exact ⟨w.heap.size + 1, rfl, wk_new (m := zM) (by simp), by omega, bthen (balloc _) (balloc _)⟩

theorem mark_any (p tp : Nat) (r : Rg) (m : Mk) (w : World) (X : Wk w p tp r m) :
    Calls Try.prog 19 #[.pointer (some ⟨p, 0, none⟩)] w fun e w' => e = .returned (.agg #[.string m.e.key, .int .i64 m.e.id, .bool m.b]) ∧ Below w.heap.size w w' := by
  have hp := X.lt
  obtain ⟨c0, c1, c2, c3, c4, c5, c6⟩ := X.cells
  have m0 : ¬ w.heap.size = p := by omega
  have m1 : ¬ p = w.heap.size := by omega
  clear X
  go_enter Try.func19, Try.ntmps19
  go_wp2_with fail
  (try simp only [Exit.inBlock, Exit.then])
  refine bodyPost_ret (v := .agg #[.string m.e.key, .int .i64 m.e.id, .bool m.b]) ?_ rfl ?_
  · simp [results, Try.results19, go_sem, *]
  · exact ⟨rfl, balloc _⟩

/-- A mark as one who goes on takes it. -/
def Mk.norm (m : Mk) : Mk := if m.b = true then m else zM
theorem resume_any (tp : Nat) (r : Rg) (m : Mk) (w : World) :
    Calls Try.prog 23 #[.pointer (some ⟨tp, 0, none⟩), .agg #[.string r.f, .string r.t, .bool r.dn], .agg #[.string m.e.key, .int .i64 m.e.id, .bool m.b]] w fun e w' => ∃ q, e = .returned (.pointer (some ⟨q, 0, none⟩)) ∧ Wk w' q tp r m.norm ∧ w.heap.size ≤ q ∧ Below w.heap.size w w' := by
  obtain ⟨me, mb⟩ := m
  cases mb with
  | true =>
    go_enter Try.func23, Try.ntmps23
    go_wp2_with fail
    go_ret
    exact ⟨w.heap.size + 1 + 1, rfl, wk_new (m := ⟨me, true⟩) (by simp), by omega, bthen (bthen (balloc _) (balloc _)) (balloc _)⟩
  | false =>
    go_enter Try.func23, Try.ntmps23
    go_wp2_with fail
    go_ret
    exact ⟨w.heap.size + 1 + 1, rfl, wk_new (m := zM) (by simp), by omega, bthen (bthen (balloc _) (balloc _)) (balloc _)⟩

theorem wk_set {w : World} {p tp : Nat} {r : Rg} {m : Mk} (h : Wk w p tp r m) (x : E) : Wk (((w.setCell ⟨p, 4, none⟩ (.string x.key)).setCell ⟨p, 5, none⟩ (.int .i64 x.id)).setCell ⟨p, 6, none⟩ (.bool true)) p tp r ⟨x, true⟩ :=
  block_setCell (block_setCell (block_setCell h 4 _ (by simp)) 5 _ (by simp)) 6 _ (by simp)

theorem Mv.setNew {F F' : Nat → Prop} {w w' : World} (h : Mv F F' w w') {a : Addr} (ha : w.heap.size ≤ a.block) (u : Value) : Mv F F' w (w'.setCell a u) :=
  ⟨h.os, h.tape, h.output, by simpa using h.size, fun k hk hc => (heap_setCell_other w' a k u (by omega)).trans (h.block k hk hc), h.new⟩
theorem Mv.setIn {F F' : Nat → Prop} {w w' : World} (h : Mv F F' w w') {a : Addr} (ha : F a.block) (u : Value) : Mv F F' w (w'.setCell a u) :=
  ⟨h.os, h.tape, h.output, by simpa using h.size, fun k hk hc => (heap_setCell_other w' a k u fun e => hc (e ▸ ha)).trans (h.block k hk hc), h.new⟩

set_option maxHeartbeats 4000000 in
set_option maxRecDepth 100000 in
theorem next_any (B p tp : Nat) (L : List E) (F : Nat → Prop) (r : Rg) (m : Mk) (w : World) (X : Wk w p tp r m) (H : Tree B w tp L F) :
    Calls Try.prog 17 #[.pointer (some ⟨p, 0, none⟩)] w fun e w' => e = .returned (.tuple #[.agg #[.string (nextE L r m).1.key, .int .i64 (nextE L r m).1.id], .bool (nextE L r m).2]) ∧
      Wk w' p tp r (mkOf m (nextE L r m)) ∧ Mv (fun k => k = p) (fun k => k = p) w w' := by
  have hp := X.lt
  have HX := hid_mk X
  have HT := hid_mk H
  have m0 : ¬ w.heap.size = p := by omega
  have m1 : ¬ p = w.heap.size := by omega
  have X0 := hid_mk (heap_alloc_new w (.cells #[.string ⟨#[]⟩, .int .i64 0] 34))
  have bw : Below w.heap.size w (w.alloc (.cells #[.string ⟨#[]⟩, .int .i64 0] 34)) := balloc _
  obtain ⟨rf, rt, rd⟩ := r
  clear X H
  go_enter Try.func17, Try.ntmps17
  go_wp2_with fail
  refine (up_any B p tp L F _ m _ (HX.out.below bw) (HT.out.below bw)).mono ?_
  rintro e w1 ⟨rfl, b1⟩
  obtain ⟨x, hx⟩ : ∃ x, x = upE L ⟨rf, rt, rd⟩ m := ⟨_, rfl⟩
  rw [← hx]
  have HXX := hid_mk hx
  have X1 := hid_mk (below_block b1 (by simp) X0.out)
  have hb1 := bthen bw b1
  have hs1 : w.heap.size < w1.heap.size := lt_of_block X1.out
  have b2 := bthen hb1 (balloc (w := w1) (.cells #[.string x.1.key, .int .i64 x.1.id] 34))
  have Y := hid_mk (heap_alloc_new w1 (.cells #[.string x.1.key, .int .i64 x.1.id] 34))
  have HX2 := hid_mk (HX.out.below b2)
  have HT2 := hid_mk (HT.out.below b2)
  have c3 := HX2.out.cells.c3
  simp only at c3
  have hw2 : (w1.alloc (.cells #[.string x.1.key, .int .i64 x.1.id] 34)).heap.size = w1.heap.size + 1 := by simp
  have HW2 := hid_mk hw2
  obtain ⟨a, ha⟩ : ∃ a, a = w1.heap.size := ⟨_, rfl⟩
  have HA := hid_mk ha
  clear hx b1 m0 m1 hw2 ha
  go_upto_if 15 with fail
  obtain ⟨w2, hw2⟩ : ∃ w2, w2 = w1.alloc (.cells #[.string x.1.key, .int .i64 x.1.id] 34) := ⟨_, rfl⟩
  have bz : Below a w1 w2 := by rw [hw2, HA.out]; exact balloc _
  rw [← hw2] at HX2 HT2 HW2 b2
  rw [← hw2, ← HA.out] at Y
  rw [← hw2, ← HA.out]
  have hsa : w.heap.size < a := by rw [HA.out]; exact hs1
  have n0 : ¬ w.heap.size = a := by omega
  have n1 : ¬ a = w.heap.size := by omega
  have n2 : ¬ p = a := by omega
  have n3 : ¬ a = p := by omega
  clear hw2 c3
  go_cut [5] (fun s5 wx => ∃ y : E × Bool, s5 = .bool y.2 ∧ Hid (y = stepE L ⟨rf, rt, rd⟩ m) ∧ Hid (wx.heap[a]? = some (.cells #[.string y.1.key, .int .i64 y.1.id] 34 (0, 0))) ∧ Hid (Below a w1 wx))
  case first =>
    cases rd with
    | false =>
      have HL : Hid (x = stepE L ⟨rf, rt, false⟩ m) := hid_mk (by unfold stepE; rw [if_neg (by simp)]; exact HXX.out)
      go_wp2_with fail
      go_meet
      case rel => exact ⟨x, rfl, HL, Y, hid_mk bz⟩
    | true =>
      go_wp2_with fail
      refine (down_any B p tp L F _ m _ HX2.out HT2.out).mono ?_
      rintro e w4 ⟨rfl, b4⟩
      obtain ⟨y, hy⟩ : ∃ y, y = dnE L ⟨rf, rt, true⟩ m := ⟨_, rfl⟩
      rw [← hy]
      have HL : Hid (y = stepE L ⟨rf, rt, true⟩ m) := hid_mk (by unfold stepE; rw [if_pos rfl]; exact hy)
      have X4 := below_block b4 (lt_of_block Y.out) Y.out
      have k0 := (cell_of_row w4 _ 0 _ _ _ X4).trans rfl
      have k1 := (cell_of_row w4 _ 1 _ _ _ X4).trans rfl
      have kf0 : w4.frozen? ⟨a, 0, none⟩ = false := by simp [World.frozen?, X4]
      have kf1 : w4.frozen? ⟨a, 1, none⟩ = false := by simp [World.frozen?, X4]
      have HB4 := hid_mk (bz.trans (b4.mono (by rw [HA.out]; exact bz.size)))
      have HX4 := hid_mk X4
      clear X4 b4 hy
      go_wp2_with fail
      go_meet
      case rel => exact ⟨y, rfl, HL, hid_mk (block_setCell (block_setCell HX4.out 0 _ (by simp)) 1 _ (by simp)), hid_mk ((HB4.out.setCell (by simp) _).setCell (by simp) _)⟩
  case rest =>
    obtain ⟨y, rfl, HL, Y2, hb⟩ := hcut
    have hbw : Below w.heap.size w wc := hb1.trans (hb.out.mono (by omega))
    have X2 : wc.heap[w.heap.size]? = some (.cells #[.string ⟨#[]⟩, .int .i64 0] 34 (0, 0)) := (hb.out.block _ hsa).trans X1.out
    have hwa : a < wc.heap.size := lt_of_block Y2.out
    have y0 := (cell_of_row wc _ 0 _ _ _ Y2.out).trans rfl
    have y1 := (cell_of_row wc _ 1 _ _ _ Y2.out).trans rfl
    have k0 := (cell_of_row wc _ 0 _ _ _ X2).trans rfl
    have k1 := (cell_of_row wc _ 1 _ _ _ X2).trans rfl
    have kf0 : wc.frozen? ⟨w.heap.size, 0, none⟩ = false := by simp [World.frozen?, X2]
    have kf1 : wc.frozen? ⟨w.heap.size, 1, none⟩ = false := by simp [World.frozen?, X2]
    have HB := hid_mk hbw
    have HX2' := hid_mk X2
    have HXc := hid_mk (HX.out.below hbw)
    obtain ⟨ye, yb⟩ := y
    simp only at y0 y1 ⊢
    clear hbw X2 hb HX HT X0 X1 bw hb1 HX2 HT2 b2 bz Y HXX
    cases yb with
    | false =>
      have HF : Hid (nextE L ⟨rf, rt, rd⟩ m = (zE, false)) := hid_mk (by unfold nextE; rw [← HL.out, if_neg (by simp)])
      have HW : Wk ((wc.setCell ⟨w.heap.size, 0, none⟩ (.string ⟨#[]⟩)).setCell ⟨w.heap.size, 1, none⟩ (.int .i64 0)) p tp ⟨rf, rt, rd⟩ (mkOf m (zE, false)) := by
        refine ((heap_setCell_other _ _ p _ (show p ≠ w.heap.size by omega)).trans (heap_setCell_other _ _ p _ (show p ≠ w.heap.size by omega))).trans ?_
        exact HXc.out
      have HM : Mv (fun k => k = p) (fun k => k = p) w ((wc.setCell ⟨w.heap.size, 0, none⟩ (.string ⟨#[]⟩)).setCell ⟨w.heap.size, 1, none⟩ (.int .i64 0)) := ((Mv.of_below HB.out).setNew (Nat.le_refl _) _).setNew (Nat.le_refl _) _
      go_wp2_with fail
      (try simp only [Exit.inBlock, Exit.then])
      refine bodyPost_ret (v := .tuple #[.agg #[.string zE.key, .int .i64 zE.id], .bool false]) ?_ rfl ?_
      · simp [results, Try.results17, go_sem, zE, *]
      · rw [HF.out]
        exact ⟨rfl, HW, HM⟩
    | true =>
      have hbd := hid_mk HXc.out
      go_wp2_with fail
      refine (in_any p tp ⟨rf, rt, rd⟩ m ye _ HXc.out).mono ?_
      rintro e w5 ⟨rfl, b5⟩
      have hb5 := bthen HB.out b5
      have X5 := below_block b5 (by omega) HX2'.out
      have Y5 := below_block b5 hwa Y2.out
      have W5 := HXc.out.below b5
      have y0 := (cell_of_row w5 _ 0 _ _ _ Y5).trans rfl
      have y1 := (cell_of_row w5 _ 1 _ _ _ Y5).trans rfl
      have k0 := (cell_of_row w5 _ 0 _ _ _ X5).trans rfl
      have k1 := (cell_of_row w5 _ 1 _ _ _ X5).trans rfl
      have kf0 : w5.frozen? ⟨w.heap.size, 0, none⟩ = false := by simp [World.frozen?, X5]
      have kf1 : w5.frozen? ⟨w.heap.size, 1, none⟩ = false := by simp [World.frozen?, X5]
      have hin : Hid (inR ye ⟨rf, rt, rd⟩ = inR ye ⟨rf, rt, rd⟩) := hid_mk rfl
      cases hI : inR ye ⟨rf, rt, rd⟩ with
      | false =>
        have HF : Hid (nextE L ⟨rf, rt, rd⟩ m = (zE, false)) := hid_mk (by unfold nextE; rw [← HL.out, if_neg (by simp [hI])])
        have HW : Wk ((w5.setCell ⟨w.heap.size, 0, none⟩ (.string ⟨#[]⟩)).setCell ⟨w.heap.size, 1, none⟩ (.int .i64 0)) p tp ⟨rf, rt, rd⟩ (mkOf m (zE, false)) := by
          refine ((heap_setCell_other _ _ p _ (show p ≠ w.heap.size by omega)).trans (heap_setCell_other _ _ p _ (show p ≠ w.heap.size by omega))).trans ?_
          exact W5
        have HM : Mv (fun k => k = p) (fun k => k = p) w ((w5.setCell ⟨w.heap.size, 0, none⟩ (.string ⟨#[]⟩)).setCell ⟨w.heap.size, 1, none⟩ (.int .i64 0)) := ((Mv.of_below hb5).setNew (Nat.le_refl _) _).setNew (Nat.le_refl _) _
        clear HB hwa HXc hbd hb5 X5 Y5 W5 b5 hin HX2' Y2
        go_wp2_with fail
        (try simp only [Exit.inBlock, Exit.then])
        refine bodyPost_ret (v := .tuple #[.agg #[.string zE.key, .int .i64 zE.id], .bool false]) ?_ rfl ?_
        · simp [results, Try.results17, go_sem, zE, *]
        · rw [HF.out]
          exact ⟨rfl, HW, HM⟩
      | true =>
        have HF : Hid (nextE L ⟨rf, rt, rd⟩ m = (ye, true)) := hid_mk (by unfold nextE; rw [← HL.out, if_pos (by simp [hI])])
        have HW6 : Hid (Wk (((w5.setCell ⟨p, 4, none⟩ (.string ye.key)).setCell ⟨p, 5, none⟩ (.int .i64 ye.id)).setCell ⟨p, 6, none⟩ (.bool true)) p tp ⟨rf, rt, rd⟩ ⟨ye, true⟩) := hid_mk (wk_set W5 ye)
        have HM6 : Hid (Mv (fun k => k = p) (fun k => k = p) w (((w5.setCell ⟨p, 4, none⟩ (.string ye.key)).setCell ⟨p, 5, none⟩ (.int .i64 ye.id)).setCell ⟨p, 6, none⟩ (.bool true))) := hid_mk ((((Mv.of_below (F := fun k => k = p) hb5).setIn (a := ⟨p, 4, none⟩) rfl _).setIn (a := ⟨p, 5, none⟩) rfl _).setIn (a := ⟨p, 6, none⟩) rfl _)
        obtain ⟨c0, c1, c2, c3, c4, c5, c6⟩ := W5.cells
        have f4 : w5.frozen? ⟨p, 4, none⟩ = false := by simp [World.frozen?, show w5.heap[p]? = _ from W5]
        have f5 : w5.frozen? ⟨p, 5, none⟩ = false := by simp [World.frozen?, show w5.heap[p]? = _ from W5]
        have f6 : w5.frozen? ⟨p, 6, none⟩ = false := by simp [World.frozen?, show w5.heap[p]? = _ from W5]
        have m0 : ¬ w.heap.size = p := by omega
        have m1 : ¬ p = w.heap.size := by omega
        clear HB hwa HXc hbd hb5 X5 Y5 W5 b5 hin HX2' Y2
        go_wp2_with fail
        (try simp only [Exit.inBlock, Exit.then])
        refine bodyPost_ret (v := .tuple #[.agg #[.string ye.key, .int .i64 ye.id], .bool true]) ?_ rfl ?_
        · simp [results, Try.results17, go_sem, *]
        · rw [HF.out]
          refine ⟨rfl, ?_, (HM6.out.setNew (Nat.le_refl _) _).setNew (Nat.le_refl _) _⟩
          refine ((heap_setCell_other _ _ p _ (show p ≠ w.heap.size by omega)).trans (heap_setCell_other _ _ p _ (show p ≠ w.heap.size by omega))).trans ?_
          exact HW6.out

end Go.Proofs.Ytanomhjekdefeaa
