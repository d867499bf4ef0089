/- The last entry of a tree. -/
import Derived.Test.YtanomhjekdefeaaTreeXg
namespace Go.Proofs.Ytanomhjekdefeaa
open Go.RowKit
set_option linter.unusedVariables false
attribute [local go_sem ↓] Go.wp_at_zero Go.wp_at_succ

set_option maxHeartbeats 2000000 in
set_option maxRecDepth 100000 in
theorem last_any (B p : Nat) (L : List E) (F : Nat → Prop) (w : World) (H : Tree B w p L F) :
    Calls Try.prog 42 #[.pointer (some ⟨p, 0, none⟩)] w fun r w' => r = .returned (.tuple #[.agg #[.string (tl L).1.key, .int .i64 (tl L).1.id], .bool (tl L).2]) ∧ Below w.heap.size w w' := by
  obtain ⟨h, t, ω, H, rfl, rfl⟩ := H
  have hp := H.lt
  have c0 : w.cell? ⟨p, 0, none⟩ = some (.pointer (some ⟨t.a, 0, none⟩)) := (cell_of_row w p 0 _ _ _ H.blk).trans rfl
  have c1 : w.cell? ⟨p, 1, none⟩ = some (.int .i64 ((ents h t).length : Nat)) := (cell_of_row w p 1 _ _ _ H.blk).trans rfl
  have HAT := hid_mk H
  have m0 := World.new_ne w ⟨p, 0, none⟩ c0
  have b0 : Below w.heap.size w (w.alloc (.cells #[.string ⟨#[]⟩, .int .i64 0] 34)) := balloc _
  by_cases h0 : ents h t = []
  · have HF : Hid (tl (ents h t) = (zE, false)) := hid_mk (by rw [h0]; rfl)
    have c1' : w.cell? ⟨p, 1, none⟩ = some (.int .i64 0) := by rw [c1, h0]; rfl
    clear c1 c0 h0 H
    go_enter Try.func42, Try.ntmps42
    go_wp2_with fail
    (try simp only [Exit.inBlock, Exit.then])
    refine bodyPost_ret (v := .tuple #[.agg #[.string zE.key, .int .i64 zE.id], .bool false]) ?_ rfl ?_
    · simp [results, Try.results42, go_sem, zE, *]
    · exact ⟨by rw [HF.out], balloc _⟩
  · have h1 : 1 ≤ t.l.length := by
      cases h with
      | zero => exact List.length_pos_iff.2 h0
      | succ h => exact H.one (by omega)
    obtain ⟨N, hN⟩ : ∃ N, N = (ents h t).length := ⟨_, rfl⟩
    have hN0 : ¬ N = 0 := by rw [hN]; exact fun h9 => h0 (List.eq_nil_of_length_eq_zero h9)
    rw [← hN] at c1
    have HF : Hid ((tl (ents h t)).2 = true) := hid_mk (by
      unfold tl
      rcases h9 : (ents h t).getLast? with _ | x
      · rw [List.getLast?_eq_none_iff] at h9; exact absurd h9 h0
      · rfl)
    clear h0 hN H
    go_enter Try.func42, Try.ntmps42
    go_wp2_with fail
    refine (greatest_any B h t ω _ HAT.out.good h1 (HAT.out.tr.below HAT.out.ok b0) (HAT.out.ok.below b0)).mono ?_
    rintro r w1 ⟨rfl, b1⟩
    have y := below_block b1 (by simp : w.heap.size < _) (heap_alloc_new w (.cells #[.string ⟨#[]⟩, .int .i64 0] 34))
    have k0 := (cell_of_row w1 _ 0 _ _ _ y).trans rfl
    have k1 := (cell_of_row w1 _ 1 _ _ _ y).trans rfl
    have kf0 : w1.frozen? ⟨w.heap.size, 0, none⟩ = false := by simp [World.frozen?, y]
    have kf1 : w1.frozen? ⟨w.heap.size, 1, none⟩ = false := by simp [World.frozen?, y]
    obtain ⟨x, hx⟩ : ∃ x, x = (tl (ents h t)).1 := ⟨_, rfl⟩
    have HB1 := hid_mk (bthen b0 b1)
    rw [← hx]
    clear y b0 b1
    go_wp2_with fail
    (try simp only [Exit.inBlock, Exit.then])
    refine bodyPost_ret (v := .tuple #[.agg #[.string x.key, .int .i64 x.id], .bool true]) ?_ rfl ?_
    · simp [results, Try.results42, go_sem, *]
    · exact ⟨by rw [HF.out, ← hx], (HB1.out.setCell (by simp) _).setCell (by simp) _⟩

end Go.Proofs.Ytanomhjekdefeaa
