/- All entries of a tree, told one behind the other. -/
import Derived.Test.YtaoamkkgiiiejaaTreeLs
import Derived.Test.YtaoamkkgiiiejaaTreeVf
namespace Go.Proofs.Ytaoamkkgiiiejaa
open Go.RowKit
set_option linter.unusedVariables false
attribute [local go_sem ↓] Go.wp_at_zero Go.wp_at_succ

set_option maxHeartbeats 4000000 in
set_option maxRecDepth 100000 in
theorem all_any (B p : Nat) (L : List E) (F : Nat → Prop) (w : World) (H : Tree B w p L F) (hL : L.length < 3000) :
    Calls Try.prog 19 #[.pointer (some ⟨p, 0, none⟩)] w fun r w' => ∃ v, r = .returned v ∧ Rw w.heap.size w' 36 2 v L.length (ecells L) ∧ Below w.heap.size w w' := by
  obtain ⟨i0, hi0, hz0, hzs, hzb⟩ := info_parts infoE
  have HT := hid_mk H
  have HSR := hid_mk H.srt
  clear H
  go_enter Try.func19, Try.ntmps19
  go_wp2_with fail
  refine (first_any B p L F _ HT.out).mono ?_
  rintro r w1 ⟨rfl, b1⟩
  obtain ⟨x0, hx0⟩ : ∃ x0, x0 = hd L := ⟨_, rfl⟩
  rw [← hx0]
  have X0 : Hid (x0 = hd (L.drop 0)) := hid_mk hx0
  clear hx0
  go_wp2_with fail
  obtain ⟨w2, hw2⟩ : ∃ w2, w2 = w1.alloc (.cells #[.string x0.1.key, .int .i64 x0.1.id] 36) := ⟨_, rfl⟩
  rw [← hw2]
  have B2 : Below w.heap.size w w2 := by rw [hw2]; exact bthen b1 (balloc _)
  have hb2 : Hid (w2.heap[w1.heap.size]? = some (.cells #[.string x0.1.key, .int .i64 x0.1.id] 36 (0, 0))) := hid_mk (by rw [hw2]; exact heap_alloc_new w1 _)
  have hn1 := b1.size
  clear hw2
  go_loopw [3, 5] (fun o s5 wr => ∃ (k : Nat) (st : E × Bool), k ≤ L.length ∧ s5 = .bool st.2 ∧ Hid (st = hd (L.drop k)) ∧ Hid (Rw w.heap.size wr 36 2 o k (ecells (L.take k))) ∧ o.ownBlock ≠ some w1.heap.size ∧ Below w.heap.size w wr ∧
    Hid (wr.heap[w1.heap.size]? = some (.cells #[.string st.1.key, .int .i64 st.1.id] 36 (0, 0)))) (fun o _ _ => L.length - (match o with | .slice _ n _ => n | _ => 0))
  case atStart => exact ⟨0, x0, Nat.zero_le _, rfl, X0, Rw.nil _ _ _ _, by simp [Value.ownBlock], B2, hb2⟩
  case round =>
    clear X0 B2 hb2
    obtain ⟨k, st, hk, rfl, HS, R, hne, hb, X⟩ := hrel
    obtain ⟨Ao, co, rfl, hkc, hco, _, _⟩ := R.out.shape
    have hX := lt_of_block X.out
    have g0 := (cell_of_row wr _ 0 _ _ _ X.out).trans rfl
    have g1 := (cell_of_row wr _ 1 _ _ _ X.out).trans rfl
    by_cases hlt : k < L.length
    · have hst := HS.out
      rw [hd_drop L k hlt] at hst
      subst hst
      obtain ⟨x, hx⟩ : ∃ x, x = ge L k := ⟨_, rfl⟩
      have HAB : Hid (above x L = L.drop (k + 1)) := hid_mk (by rw [hx]; exact above_get HSR.out k hlt)
      have HTK : Hid (ecells (L.take (k + 1)) = ecells (L.take k) ++ [.string x.key, .int .i64 x.id]) := hid_mk (by rw [ge_take L k hlt, hx, ecells_append]; rfl)
      rw [show (ge L k, true).1 = x from hx.symm] at X g0 g1
      have hk3 : k < 3000 := by omega
      obtain ⟨v3, w3, hr, R3, M3⟩ := run_app_rw (P := Try.prog) (R.out.below (balloc (.cells #[.string x.key, .int .i64 x.id] 36))) (by have := hb.size; simp; omega) 40 40 i0 _ 24 Try.underlying40 hi0 hz0 hzs hzb rfl (by omega) ⟨wr.heap.size, 0, none⟩ 1 1 (by omega) [.string x.key, .int .i64 x.id] rfl
        (fun j u hu => by rw [add0, cell_of_row _ _ _ _ _ _ (heap_alloc_new wr _)]; simpa using hu) (by intro u hu; simp at hu; rcases hu with rfl | rfl <;> rfl) (by omega) (by omega)
      rw [← HTK.out] at R3
      have hXa : (wr.alloc (.cells #[.string x.key, .int .i64 x.id] 36)).heap[w1.heap.size]? = some (.cells #[.string x.key, .int .i64 x.id] 36 (0, 0)) := (heap_alloc_old wr _ hX).trans X.out
      have hX3 := M3.at_ hXa (fun h9 => hne h9)
      have hne3 : v3.ownBlock ≠ some w1.heap.size := fun h9 => by
        rcases M3.new _ h9 with h8 | h8
        · exact hne h8
        · simp at h8; omega
      have hb3 : Below w.heap.size w w3 := (hb.trans (balloc' hb.size)).trans (M3.below (fun j hj => (R.out.lt j hj).1) (by have := hb.size; simp; omega))
      obtain ⟨A3, c3, rfl, _, _, _⟩ := R3.shape
      have j0 := (cell_of_row w3 _ 0 _ _ _ hX3).trans rfl
      have j1 := (cell_of_row w3 _ 1 _ _ _ hX3).trans rfl
      have HR3 := hid_mk R3
      have HX3 := hid_mk hX3
      have HTT := hid_mk (HT.out.below (F := F) (show Below w.heap.size w w3 from hb3))
      have hz3 := hb3.size
      clear hXa hX3 R3 M3 R hx HS
      go_wp2_with (at_builtin; refine Lib.wpList_append_run _ rfl _ _ 40 40 rfl _ _ rfl rfl _ _ hr ?_)
      refine (after_any B p L F x _ HTT.out).mono ?_
      rintro r w4 ⟨rfl, b4⟩
      rw [HAB.out]
      obtain ⟨st', hst'⟩ : ∃ st', st' = hd (L.drop (k + 1)) := ⟨_, rfl⟩
      rw [← hst']
      have X4 := below_block b4 (lt_of_block HX3.out) HX3.out
      have l0 := (cell_of_row w4 _ 0 _ _ _ X4).trans rfl
      have l1 := (cell_of_row w4 _ 1 _ _ _ X4).trans rfl
      have lf0 : w4.frozen? ⟨w1.heap.size, 0, none⟩ = false := by simp [World.frozen?, X4]
      have lf1 : w4.frozen? ⟨w1.heap.size, 1, none⟩ = false := by simp [World.frozen?, X4]
      have HX5 := hid_mk (block_setCell (block_setCell X4 0 (.string st'.1.key) (by simp)) 1 (.int .i64 st'.1.id) (by simp))
      have HR5 := hid_mk (((HR3.out.below b4).setCell_other ⟨w1.heap.size, 0, none⟩ (.string st'.1.key) hne3).setCell_other ⟨w1.heap.size, 1, none⟩ (.int .i64 st'.1.id) hne3)
      have hb5 := ((hb3.trans (b4.mono hb3.size)).setCell (p := ⟨w1.heap.size, 0, none⟩) hn1 (.string st'.1.key)).setCell (p := ⟨w1.heap.size, 1, none⟩) hn1 (.int .i64 st'.1.id)
      have HS' := hid_mk hst'
      clear X4 hst' j0 j1 g0 g1 hb hb3 b4
      go_wp2_with fail
      exact ⟨⟨k + 1, st', by omega, rfl, HS', HR5, hne3, hb5, HX5⟩, by simp; omega⟩
    · obtain rfl : k = L.length := by omega
      have hst := HS.out
      rw [List.drop_length] at hst
      subst hst
      have HR := R
      rw [List.take_length] at HR
      clear g0 g1
      simp only [hd]
      go_wp2_with fail
      go_ret
      exact ⟨_, rfl, HR.out, hb⟩

end Go.Proofs.Ytaoamkkgiiiejaa
