/- Whether an entry is there. -/
import Derived.Test.YtaoamkkgiiiejaaTreeJ
import Derived.Test.YtaoamkkgiiiejaaTreeR
namespace Go.Proofs.Ytaoamkkgiiiejaa
open Go.RowKit
set_option linter.unusedVariables false
attribute [local go_sem ↓] Go.wp_at_zero Go.wp_at_succ

set_option maxHeartbeats 2000000 in
set_option maxRecDepth 100000 in
theorem has_any (B p : Nat) (L : List E) (F : Nat → Prop) (e : E) (w : World) (H : Tree B w p L F) :
    Calls Try.prog 15 #[.pointer (some ⟨p, 0, none⟩), .agg #[.string e.key, .int .i64 e.id]] w fun r w' => r = .returned (.bool (decide (e ∈ L))) ∧ Below w.heap.size w w' := by
  obtain ⟨h, t, ω, H, rfl, rfl⟩ := H
  have hp := H.lt
  have c0 : w.cell? ⟨p, 0, none⟩ = some (.pointer (some ⟨t.a, 0, none⟩)) := (cell_of_row w p 0 _ _ _ H.blk).trans rfl
  have HOK := hid_mk H.ok
  have HT0 := hid_mk H.tr
  obtain ⟨L, hL⟩ : ∃ L, L = ents h t := ⟨_, rfl⟩
  have I0 : Hid (HasAt e L h t) := hid_mk ⟨H.good, H.four, hL ▸ H.srt, [], [], by simp [hL], fun x h => by simp at h, fun x h => by simp at h⟩
  rw [← hL]
  have m0 := World.new_ne w ⟨p, 0, none⟩ c0
  clear hL H
  go_enter Try.func15, Try.ntmps15
  go_wp2_with fail
  obtain ⟨w0, hw0⟩ : ∃ w0, w0 = w.alloc (.cells #[.string e.key, .int .i64 e.id] 36) := ⟨_, rfl⟩
  rw [← hw0]
  have B0 : Below w.heap.size w w0 := by rw [hw0]; exact balloc _
  have X0 : Hid (w0.heap[w.heap.size]? = some (.cells #[.string e.key, .int .i64 e.id] 36 (0, 0))) := hid_mk (by rw [hw0]; exact heap_alloc_new w _)
  clear hw0 c0 m0
  go_loopg [5] h (fun kx s5 wr => ∃ (h' : Nat) (s : T), kx = h' ∧ s5 = .pointer (some ⟨s.a, 0, none⟩) ∧ Hid (HasAt e L h' s) ∧ Hid (Tr h' w ω s) ∧ Below w.heap.size w wr ∧ Hid (wr.heap[w.heap.size]? = some (.cells #[.string e.key, .int .i64 e.id] 36 (0, 0))))
  case atStart => exact ⟨h, t, rfl, rfl, I0, HT0, B0, X0⟩
  case round =>
    clear I0 HT0 B0 X0
    obtain ⟨h', s, hkx, rfl, I, HT, hb, X⟩ := hrel
    have hkx' := hkx.symm
    clear hkx
    subst hkx'
    obtain ⟨v, u, N⟩ := (HT.out.below HOK.out hb).top
    obtain ⟨c0, c1, _, _⟩ := N.cells
    obtain ⟨Al, cl, rfl, _, _⟩ := N.lany
    obtain ⟨Ak, ck, rfl, _, _⟩ := N.kany
    have hsrt := srt_top I.out.good I.out.sub
    have hfour := I.out.four
    have e0 := (cell_of_row wr _ 0 _ _ _ X.out).trans rfl
    have e1 := (cell_of_row wr _ 1 _ _ _ X.out).trans rfl
    have HSRT := hid_mk hsrt
    go_wp2_with fail
    refine (find_any s.l e 0 s.a _ _ c0 N.lst HSRT.out (by omega)).mono ?_
    rintro r w1 ⟨rfl, b1⟩
    have hb1 := hb.trans (b1.mono hb.size)
    have c1' := keep_cell b1 c1
    have Y := hid_mk (below_block b1 (lt_of_block X.out) X.out)
    have N1 := hid_mk (show Nd w1 ω s.a _ _ s.l _ from N.below (HOK.out.below hb) b1)
    obtain ⟨K, hK⟩ : ∃ K, K = (below e s.l).length := ⟨_, rfl⟩
    have HK := hid_mk hK
    rw [← hK]
    by_cases he : e ∈ s.l
    · have HD : Hid (decide (e ∈ L) = true) := hid_mk (decide_eq_true (I.out.iff.2 (mem_top I.out.good he)))
      rw [decide_eq_true he]
      clear hK c0 c1 e0 e1 N b1 hb
      go_wp2_with fail
      go_ret
      exact ⟨ret_bool HD.out.symm, hb1⟩
    · rw [decide_eq_false he]
      clear hK c0 c1 e0 e1 N b1 hb
      go_wp2_with fail
      refine (leaf_any s.a _ ck Ak _ c1').mono ?_
      rintro r w2 ⟨rfl, rfl⟩
      cases h' with
      | zero =>
        have hks : s.ks = [] := I.out.good
        have hd0 : decide ((s.ks.map T.a).length = 0) = true := by rw [hks]; rfl
        rw [hd0]
        have HD : Hid (decide (e ∈ L) = false) := hid_mk (decide_eq_false fun h9 => he (I.out.iff.1 h9))
        clear hks hd0
        go_wp2_with fail
        go_ret
        exact ⟨ret_bool HD.out.symm, hb1⟩
      | succ h' =>
        have hg2 : s.ks.length = s.l.length + 1 := I.out.good.1
        have hn0 : ¬ (s.ks.map T.a).length = 0 := by rw [List.length_map]; omega
        rw [decide_eq_false hn0]
        obtain ⟨k1, c, k2, hks, hk1, I2⟩ := has_step I.out he
        rw [← HK.out] at hk1
        have Tc : Tr h' w ω c := by
          have h9 := HT.out
          rw [T.eta s, hks] at h9
          exact h9.kid.1
        obtain ⟨gk, kcap, hk2, _, _, hgklt, hkc⟩ := N1.out.kshape (by rw [List.length_map]; omega)
        injection hk2 with q1 q2 q3
        subst q1 q3
        have hkl2 : K < (s.ks.map T.a).length := by rw [List.length_map, hks]; simp; omega
        have kc := hkc K hkl2
        have hce : (s.ks.map T.a)[K] = c.a := by
          have h9 : (s.ks.map T.a)[K]? = some c.a := by
            rw [hks, List.map_append, List.getElem?_append_right (by simp [hk1])]
            simp [hk1]
          exact (List.getElem?_eq_some_iff.1 h9).2
        rw [hce] at kc
        have l0 : (0 : Int) ≤ (K : Int) := by omega
        have l1 : (K : Int) < ((s.ks.map T.a).length : Int) := by omega
        have HI2 := hid_mk I2
        have HTc := hid_mk Tc
        obtain ⟨Q, hQ⟩ : ∃ Q, Q = (s.ks.map T.a).length := ⟨_, rfl⟩
        rw [← hQ] at c1' l1
        clear hkc hce hks hk1 I2 Tc hg2 hn0 hkl2 hQ
        go_wp2_with fail
        go_roundg h'
        case measure => omega
        case rel => exact ⟨h', c, rfl, rfl, HI2, HTc, hb1, Y⟩

end Go.Proofs.Ytaoamkkgiiiejaa
