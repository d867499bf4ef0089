/- A walk's next entry, rising. -/
import Derived.Test.YtanomhjekdefeaaWalkB
namespace Go.Proofs.Ytanomhjekdefeaa
open Go.RowKit
set_option linter.unusedVariables false
attribute [local go_sem ↓] Go.wp_at_zero Go.wp_at_succ

/-- The entry made last, behind a draw. -/
theorem entry_new {w w4 : World} {o : Obj} {cs : Array Value} {n : Nat} (b : Below (((w.alloc o).drewN n).alloc (.cells cs 34)).heap.size (((w.alloc o).drewN n).alloc (.cells cs 34)) w4) : w4.heap[w.heap.size + 1]? = some (.cells cs 34 (0, 0)) := by
  refine below_block b (by simp) ?_
  have h9 := heap_alloc_new ((w.alloc o).drewN n) (.cells cs 34)
  have h8 : ((w.alloc o).drewN n).heap.size = w.heap.size + 1 := by show (w.alloc o).heap.size = _; simp
  rw [h8] at h9
  exact h9

theorem cut_a {w w4 : World} {n : Nat} (b : Below (w.drewN n).heap.size (w.drewN n) w4) : Below w.heap.size w w4 := (pw_below (n := n) (Below.refl w.heap.size w)).trans b
theorem cut_b {w w4 : World} {o : Obj} {n : Nat} (b : Below ((w.alloc o).drewN n).heap.size ((w.alloc o).drewN n) w4) : Below w.heap.size w w4 := (balloc (w := w) o).trans ((cut_a b).mono (by simp))
theorem late_a {w w4 : World} {o : Obj} {n : Nat} (b : Below ((w.alloc o).drewN n).heap.size ((w.alloc o).drewN n) w4) : w.heap.size < w4.heap.size := by have h := (cut_a b).size; simp at h; omega

set_option maxHeartbeats 4000000 in
set_option maxRecDepth 100000 in
theorem up_any (B p tp : Nat) (L : List E) (F : Nat → Prop) (r : Rg) (m : Mk) (w : World) (X : Wk w p tp r m) (H : Tree B w tp L F) :
    Calls Try.prog 29 #[.pointer (some ⟨p, 0, none⟩)] w fun e w' => e = .returned (.tuple #[.agg #[.string (upE L r m).1.key, .int .i64 (upE L r m).1.id], .bool (upE L r m).2]) ∧ Below w.heap.size w w' := by
  have hp := X.lt
  obtain ⟨c0, c1, c2, c3, c4, c5, c6⟩ := X.cells
  have HX := hid_mk X
  have HT := hid_mk H
  have m0 : ¬ w.heap.size = p := by omega
  have m1 : ¬ p = w.heap.size := by omega
  have X0 := hid_mk (heap_alloc_new w (.cells #[.string ⟨#[]⟩, .int .i64 0] 34))
  have bw : Below w.heap.size w (w.alloc (.cells #[.string ⟨#[]⟩, .int .i64 0] 34)) := balloc _
  obtain ⟨me, mb⟩ := m
  simp only at c4 c5 c6
  clear X H
  cases mb with
  | false =>
    have HF : Hid (upE L r ⟨me, false⟩ = fromE L r.f) := hid_mk (by unfold upE; rw [if_neg (by simp)])
    go_enter Try.func29, Try.ntmps29
    go_wp2_with fail
    refine (from_any B p tp L F r ⟨me, false⟩ r.f _ (HX.out.below bw) (HT.out.below bw)).mono ?_
    rintro x w1 ⟨rfl, b1⟩
    obtain ⟨x, hx⟩ : ∃ x, x = fromE L r.f := ⟨_, rfl⟩
    rw [← hx] at HF ⊢
    have X1 := below_block b1 (by simp) X0.out
    have k0 := (cell_of_row w1 _ 0 _ _ _ X1).trans rfl
    have k1 := (cell_of_row w1 _ 1 _ _ _ X1).trans rfl
    have kf0 : w1.frozen? ⟨w.heap.size, 0, none⟩ = false := by simp [World.frozen?, X1]
    have kf1 : w1.frozen? ⟨w.heap.size, 1, none⟩ = false := by simp [World.frozen?, X1]
    have HB1 := hid_mk (bthen bw b1)
    clear X1 b1 hx
    go_wp2_with fail
    (try simp only [Exit.inBlock, Exit.then])
    refine bodyPost_ret (v := .tuple #[.agg #[.string x.1.key, .int .i64 x.1.id], .bool x.2]) ?_ rfl ?_
    · simp [results, Try.results29, go_sem, *]
    · exact ⟨by rw [HF.out], (HB1.out.setCell (by simp) _).setCell (by simp) _⟩
  | true =>
    go_enter Try.func29, Try.ntmps29
    obtain ⟨x, hx⟩ : ∃ x, x = hd (above me L) := ⟨_, rfl⟩
    have HXX := hid_mk hx
    clear hx
    go_wp2_with fail
    go_cut [4, 5] (fun s4 s5 wx => ∃ a : Nat, s4 = .pointer (some ⟨a, 0, none⟩) ∧ s5 = .bool x.2 ∧ Hid (wx.heap[a]? = some (.cells #[.string x.1.key, .int .i64 x.1.id] 34 (0, 0))) ∧ w.heap.size < a ∧
      Hid (Below (w.alloc (.cells #[.string ⟨#[]⟩, .int .i64 0] 34)).heap.size (w.alloc (.cells #[.string ⟨#[]⟩, .int .i64 0] 34)) wx))
    case first =>
      have T1 : Hid (∀ z : World, Below (w.alloc (.cells #[.string ⟨#[]⟩, .int .i64 0] 34)).heap.size (w.alloc (.cells #[.string ⟨#[]⟩, .int .i64 0] 34)) z → Tree B z tp L F) := hid_mk fun z hz => HT.out.below (bthen bw hz)
      clear HT X0 c1 c2 c3 c6
      go_region_with
        ((go_at_call 40; refine (after_any B tp L F me _ (T1.out _ (by first | exact pw_below (n := 1) (Below.refl _ _) | exact pw_below (n := 1) (balloc _)))).mono ?_; rintro r w4 ⟨rfl, b4⟩; rw [← HXX.out];
          (try have Z4 := entry_new b4); (try have k0 := (cell_of_row w4 _ 0 _ _ _ Z4).trans rfl); (try have k1 := (cell_of_row w4 _ 1 _ _ _ Z4).trans rfl);
          (try have kf0 : w4.frozen? ⟨w.heap.size + 1, 0, none⟩ = false := by simp [World.frozen?, Z4]); (try have kf1 : w4.frozen? ⟨w.heap.size + 1, 1, none⟩ = false := by simp [World.frozen?, Z4])))
      all_goals
        go_wp2_with fail
        go_meet
        case rel =>
          first
          | exact ⟨w4.heap.size, rfl, rfl, hid_mk (heap_alloc_new w4 _), late_a b4, hid_mk (bthen (cut_a b4) (balloc _))⟩
          | exact ⟨w.heap.size + 1, rfl, rfl, hid_mk (block_setCell (block_setCell Z4 0 _ (by simp)) 1 _ (by simp)), Nat.lt_succ_self _, hid_mk (((cut_b b4).setCell (by simp) _).setCell (by simp) _)⟩
    case rest =>
      obtain ⟨a, rfl, rfl, Y, ha, hb⟩ := hcut
      have hbw := bthen bw hb.out
      have X1 := below_block hb.out (by simp) X0.out
      have c1' := keep_cell hbw c1
      have k0 := (cell_of_row wc _ 0 _ _ _ X1).trans rfl
      have k1 := (cell_of_row wc _ 1 _ _ _ X1).trans rfl
      have kf0 : wc.frozen? ⟨w.heap.size, 0, none⟩ = false := by simp [World.frozen?, X1]
      have kf1 : wc.frozen? ⟨w.heap.size, 1, none⟩ = false := by simp [World.frozen?, X1]
      have y0 := (cell_of_row wc _ 0 _ _ _ Y.out).trans rfl
      have y1 := (cell_of_row wc _ 1 _ _ _ Y.out).trans rfl
      have n0 : ¬ w.heap.size = a := by omega
      have n1 : ¬ a = w.heap.size := by omega
      have HB := hid_mk hbw
      have HX1 := hid_mk X1
      have HXc := hid_mk (HX.out.below hbw)
      have HTc := hid_mk (HT.out.below hbw)
      have q1 := bl_kc x.1.key r.f
      obtain ⟨xe, xb⟩ := x
      simp only at y0 y1 q1 ⊢
      clear c0 c1 c2 c3 c4 c5 c6 hbw X1 Y hb
      cases xb with
      | false =>
        have HF : Hid (upE L r ⟨me, true⟩ = (xe, false)) := hid_mk (by unfold upE; simp only; rw [← HXX.out]; simp)
        go_wp2_with fail
        go_quiet (fail)
        go_wp2_with fail
        (try simp only [Exit.inBlock, Exit.then])
        refine bodyPost_ret (v := .tuple #[.agg #[.string xe.key, .int .i64 xe.id], .bool false]) ?_ rfl ?_
        · simp [results, Try.results29, go_sem, *]
        · exact ⟨by rw [HF.out], ((pw_below HB.out).setCell (by simp) _).setCell (by simp) _⟩
      | true =>
        cases hbk : decide (kc xe.key r.f < 0) with
        | false =>
          rw [hbk] at q1
          have HF : Hid (upE L r ⟨me, true⟩ = (xe, true)) := hid_mk (by unfold upE; simp only; rw [← HXX.out]; simp [behindK, hbk])
          go_wp2_with fail
          go_quiet (fail)
          go_wp2_with fail
          (try simp only [Exit.inBlock, Exit.then])
          refine bodyPost_ret (v := .tuple #[.agg #[.string xe.key, .int .i64 xe.id], .bool true]) ?_ rfl ?_
          · simp [results, Try.results29, go_sem, *]
          · exact ⟨by rw [HF.out], ((pw_below HB.out).setCell (by simp) _).setCell (by simp) _⟩
        | true =>
          rw [hbk] at q1
          have HF : Hid (upE L r ⟨me, true⟩ = fromE L r.f) := hid_mk (by unfold upE; simp only; rw [← HXX.out]; simp [behindK, hbk])
          go_wp2_with fail
          go_quiet (fail)
          go_wp2_with fail
          refine (from_any B p tp L F r ⟨me, true⟩ r.f _ (HXc.out.below (pw_below (Below.refl _ _))) (HTc.out.below (pw_below (Below.refl _ _)))).mono ?_
          rintro e w5 ⟨rfl, b5⟩
          obtain ⟨x, hx⟩ : ∃ x, x = fromE L r.f := ⟨_, rfl⟩
          rw [← hx] at HF ⊢
          have b6 := cut_a b5
          have X5 := below_block b6 (lt_of_block HX1.out) HX1.out
          have HB5 := hid_mk (bthen HB.out b6)
          have k0 := (cell_of_row w5 _ 0 _ _ _ X5).trans rfl
          have k1 := (cell_of_row w5 _ 1 _ _ _ X5).trans rfl
          have kf0 : w5.frozen? ⟨w.heap.size, 0, none⟩ = false := by simp [World.frozen?, X5]
          have kf1 : w5.frozen? ⟨w.heap.size, 1, none⟩ = false := by simp [World.frozen?, X5]
          clear X5 b5 b6 hx
          go_wp2_with fail
          (try simp only [Exit.inBlock, Exit.then])
          refine bodyPost_ret (v := .tuple #[.agg #[.string x.1.key, .int .i64 x.1.id], .bool x.2]) ?_ rfl ?_
          · simp [results, Try.results29, go_sem, *]
          · exact ⟨by rw [HF.out], (HB5.out.setCell (by simp) _).setCell (by simp) _⟩

end Go.Proofs.Ytanomhjekdefeaa
