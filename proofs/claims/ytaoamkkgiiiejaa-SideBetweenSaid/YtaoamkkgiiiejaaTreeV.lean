/- Whether an entry is there; the first one; how many there are. -/
import Derived.Test.YtaoamkkgiiiejaaTreeJ
import Derived.Test.YtaoamkkgiiiejaaTreeR
namespace Go.Proofs.Ytaoamkkgiiiejaa
open Go.RowKit
set_option linter.unusedVariables false
attribute [local go_sem ↓] Go.wp_at_zero Go.wp_at_succ

theorem len_any (B p : Nat) (L : List E) (F : Nat → Prop) (w : World) (H : Tree B w p L F) :
    Calls Try.prog 16 #[.pointer (some ⟨p, 0, none⟩)] w fun r w' => r = .returned (.int .i64 (L.length : Nat)) ∧ w = w' := by
  obtain ⟨h, t, ω, H, rfl, rfl⟩ := H
  have c1 : w.cell? ⟨p, 1, none⟩ = some (.int .i64 ((ents h t).length : Nat)) := (cell_of_row w p 1 _ _ _ H.blk).trans rfl
  go_enter Try.func16, Try.ntmps16
  go_wp2_with fail
  go_ret
  exact ⟨rfl, rfl⟩

set_option maxHeartbeats 2000000 in
set_option maxRecDepth 100000 in
theorem has_any (B p : Nat) (L : List E) (F : Nat → Prop) (e : E) (w : World) (H : Tree B w p L F) :
    Calls Try.prog 15 #[.pointer (some ⟨p, 0, none⟩), .agg #[.string e.key, .int .i64 e.id]] w fun r w' => r = .returned (.bool (decide (e ∈ L))) ∧ Below w.heap.size w w' := by
  obtain ⟨h, t, ω, H, rfl, rfl⟩ := H
  have hp := H.lt
  have c0 : w.cell? ⟨p, 0, none⟩ = some (.pointer (some ⟨t.a, 0, none⟩)) := (cell_of_row w p 0 _ _ _ H.blk).trans rfl
  have HOK := hid_mk H.ok
  have HT0 := hid_mk H.tr
  obtain ⟨L, hL⟩ : ∃ L, L = ents h t := ⟨_, rfl⟩
  have I0 : Hid (HasAt e L h t) := hid_mk ⟨H.good, H.four, hL ▸ H.srt, [], [], by simp [hL], fun x h => by simp at h, fun x h => by simp at h⟩
  rw [← hL]
  have m0 := World.new_ne w ⟨p, 0, none⟩ c0
  clear hL H
  go_enter Try.func15, Try.ntmps15
  go_wp2_with fail
  obtain ⟨w0, hw0⟩ : ∃ w0, w0 = w.alloc (.cells #[.string e.key, .int .i64 e.id] 36) := ⟨_, rfl⟩
  rw [← hw0]
  have B0 : Below w.heap.size w w0 := by rw [hw0]; exact balloc _
  have X0 : Hid (w0.heap[w.heap.size]? = some (.cells #[.string e.key, .int .i64 e.id] 36 (0, 0))) := hid_mk (by rw [hw0]; exact heap_alloc_new w _)
  clear hw0 c0 m0
  go_loopg [5] h (fun kx s5 wr => ∃ (h' : Nat) (s : T), kx = h' ∧ s5 = .pointer (some ⟨s.a, 0, none⟩) ∧ Hid (HasAt e L h' s) ∧ Hid (Tr h' w ω s) ∧ Below w.heap.size w wr ∧ Hid (wr.heap[w.heap.size]? = some (.cells #[.string e.key, .int .i64 e.id] 36 (0, 0))))
  case atStart => exact ⟨h, t, rfl, rfl, I0, HT0, B0, X0⟩
  case round =>
    clear I0 HT0 B0 X0
    obtain ⟨h', s, hkx, rfl, I, HT, hb, X⟩ := hrel
    have hkx' := hkx.symm
    clear hkx
    subst hkx'
    obtain ⟨v, u, N⟩ := (HT.out.below HOK.out hb).top
    obtain ⟨c0, c1, _, _⟩ := N.cells
    obtain ⟨Al, cl, rfl, _, _⟩ := N.lany
    obtain ⟨Ak, ck, rfl, _, _⟩ := N.kany
    have hsrt := srt_top I.out.good I.out.sub
    have hfour := I.out.four
    have e0 := (cell_of_row wr _ 0 _ _ _ X.out).trans rfl
    have e1 := (cell_of_row wr _ 1 _ _ _ X.out).trans rfl
    have HSRT := hid_mk hsrt
    go_wp2_with fail
    refine (find_any s.l e 0 s.a _ _ c0 N.lst HSRT.out (by omega)).mono ?_
    rintro r w1 ⟨rfl, b1⟩
    have hb1 := hb.trans (b1.mono hb.size)
    have c1' := keep_cell b1 c1
    have Y := hid_mk (below_block b1 (lt_of_block X.out) X.out)
    have N1 := hid_mk (show Nd w1 ω s.a _ _ s.l _ from N.below (HOK.out.below hb) b1)
    obtain ⟨K, hK⟩ : ∃ K, K = (below e s.l).length := ⟨_, rfl⟩
    have HK := hid_mk hK
    rw [← hK]
    by_cases he : e ∈ s.l
    · have HD : Hid (decide (e ∈ L) = true) := hid_mk (decide_eq_true (I.out.iff.2 (mem_top I.out.good he)))
      rw [decide_eq_true he]
      clear hK c0 c1 e0 e1 N b1 hb
      go_wp2_with fail
      go_ret
      exact ⟨ret_bool HD.out.symm, hb1⟩
    · rw [decide_eq_false he]
      clear hK c0 c1 e0 e1 N b1 hb
      go_wp2_with fail
      refine (leaf_any s.a _ ck Ak _ c1').mono ?_
      rintro r w2 ⟨rfl, rfl⟩
      cases h' with
      | zero =>
        have hks : s.ks = [] := I.out.good
        have hd0 : decide ((s.ks.map T.a).length = 0) = true := by rw [hks]; rfl
        rw [hd0]
        have HD : Hid (decide (e ∈ L) = false) := hid_mk (decide_eq_false fun h9 => he (I.out.iff.1 h9))
        clear hks hd0
        go_wp2_with fail
        go_ret
        exact ⟨ret_bool HD.out.symm, hb1⟩
      | succ h' =>
        have hg2 : s.ks.length = s.l.length + 1 := I.out.good.1
        have hn0 : ¬ (s.ks.map T.a).length = 0 := by rw [List.length_map]; omega
        rw [decide_eq_false hn0]
        obtain ⟨k1, c, k2, hks, hk1, I2⟩ := has_step I.out he
        rw [← HK.out] at hk1
        have Tc : Tr h' w ω c := by
          have h9 := HT.out
          rw [T.eta s, hks] at h9
          exact h9.kid.1
        obtain ⟨gk, kcap, hk2, _, _, hgklt, hkc⟩ := N1.out.kshape (by rw [List.length_map]; omega)
        injection hk2 with q1 q2 q3
        subst q1 q3
        have hkl2 : K < (s.ks.map T.a).length := by rw [List.length_map, hks]; simp; omega
        have kc := hkc K hkl2
        have hce : (s.ks.map T.a)[K] = c.a := by
          have h9 : (s.ks.map T.a)[K]? = some c.a := by
            rw [hks, List.map_append, List.getElem?_append_right (by simp [hk1])]
            simp [hk1]
          exact (List.getElem?_eq_some_iff.1 h9).2
        rw [hce] at kc
        have l0 : (0 : Int) ≤ (K : Int) := by omega
        have l1 : (K : Int) < ((s.ks.map T.a).length : Int) := by omega
        have HI2 := hid_mk I2
        have HTc := hid_mk Tc
        obtain ⟨Q, hQ⟩ : ∃ Q, Q = (s.ks.map T.a).length := ⟨_, rfl⟩
        rw [← hQ] at c1' l1
        clear hkc hce hks hk1 I2 Tc hg2 hn0 hkl2 hQ
        go_wp2_with fail
        go_roundg h'
        case measure => omega
        case rel => exact ⟨h', c, rfl, rfl, HI2, HTc, hb1, Y⟩

structure FirstAt (L : List E) (h : Nat) (s : T) : Prop where
  good : Good h s
  four : s.l.length ≤ 4
  at_ : ∃ Q, L = ents h s ++ Q ∧ (ents h s = [] → Q = [])
theorem first_leaf {L : List E} {s : T} (H : FirstAt L 0 s) : hd L = hd s.l := by
  obtain ⟨Q, hL, hQ⟩ := H.at_
  have hL' : L = s.l ++ Q := hL
  rw [hL']
  rcases hs : s.l with _ | ⟨x, r⟩
  · rw [hQ hs]; rfl
  · rfl
theorem first_step {L : List E} {h : Nat} {s : T} (H : FirstAt L (h + 1) s) : ∃ c k2, s.ks = c :: k2 ∧ FirstAt L h c := by
  obtain ⟨Q, hL, hQ⟩ := H.at_
  obtain ⟨hk, hall⟩ := H.good
  rcases hks : s.ks with _ | ⟨c, k2⟩
  · rw [hks] at hk; simp at hk
  · have hc := hall c (by rw [hks]; simp)
    refine ⟨c, k2, rfl, ⟨hc.1, hc.2.2, post s.l (k2.map (ents h)) ++ Q, ?_, fun h9 => ?_⟩⟩
    · rw [hL]
      have e : ents (h + 1) s = ents h c ++ post s.l (k2.map (ents h)) := by
        show inter s.l (s.ks.map (ents h)) = _
        rw [hks]; rfl
      rw [e, List.append_assoc]
    · exfalso
      have h8 : ge c.l 0 ∈ ents h c := mem_top hc.1 (ge_mem c.l 0 (by omega))
      rw [h9] at h8
      simp at h8

set_option maxHeartbeats 2000000 in
set_option maxRecDepth 100000 in
theorem first_any (B p : Nat) (L : List E) (F : Nat → Prop) (w : World) (H : Tree B w p L F) :
    Calls Try.prog 29 #[.pointer (some ⟨p, 0, none⟩)] w fun r w' => r = .returned (.tuple #[.agg #[.string (hd L).1.key, .int .i64 (hd L).1.id], .bool (hd L).2]) ∧ Below w.heap.size w w' := by
  obtain ⟨h, t, ω, H, rfl, rfl⟩ := H
  have hp := H.lt
  have c0 : w.cell? ⟨p, 0, none⟩ = some (.pointer (some ⟨t.a, 0, none⟩)) := (cell_of_row w p 0 _ _ _ H.blk).trans rfl
  have HOK := hid_mk H.ok
  have HT0 := hid_mk H.tr
  obtain ⟨L, hL⟩ : ∃ L, L = ents h t := ⟨_, rfl⟩
  have I0 : Hid (FirstAt L h t) := hid_mk ⟨H.good, H.four, [], by simp [hL], fun _ => rfl⟩
  rw [← hL]
  have m0 := World.new_ne w ⟨p, 0, none⟩ c0
  clear hL H
  go_enter Try.func29, Try.ntmps29
  go_wp2_with fail
  obtain ⟨w0, hw0⟩ : ∃ w0, w0 = w.alloc (.cells #[.string ⟨#[]⟩, .int .i64 0] 36) := ⟨_, rfl⟩
  rw [← hw0]
  have B0 : Below w.heap.size w w0 := by rw [hw0]; exact balloc _
  have x0 : w0.heap[w.heap.size]? = some (.cells #[.string ⟨#[]⟩, .int .i64 0] 36 (0, 0)) := by rw [hw0]; exact heap_alloc_new w _
  have k0 := (cell_of_row w0 _ 0 _ _ _ x0).trans rfl
  have k1 := (cell_of_row w0 _ 1 _ _ _ x0).trans rfl
  have kf0 : w0.frozen? ⟨w.heap.size, 0, none⟩ = false := by simp [World.frozen?, x0]
  have kf1 : w0.frozen? ⟨w.heap.size, 1, none⟩ = false := by simp [World.frozen?, x0]
  clear hw0 c0 m0 x0
  go_loopg [4] h (fun kx s4 wr => w0 = wr ∧ ∃ (h' : Nat) (s : T), kx = h' ∧ s4 = .pointer (some ⟨s.a, 0, none⟩) ∧ Hid (FirstAt L h' s) ∧ Hid (Tr h' w ω s))
  case atStart => exact ⟨rfl, h, t, rfl, rfl, I0, HT0⟩
  case round =>
    clear I0 HT0
    obtain ⟨hww, h', s, hkx, rfl, I, HT⟩ := hrel
    have hkx' := hkx.symm
    clear hkx
    subst hkx'
    subst hww
    obtain ⟨v, u, N⟩ := (HT.out.below HOK.out B0).top
    obtain ⟨c0, c1, _, _⟩ := N.cells
    obtain ⟨Ak, ck, rfl, _, _⟩ := N.kany
    have HN := hid_mk N
    go_wp2_with fail
    refine (leaf_any s.a _ ck Ak _ c1).mono ?_
    rintro r w2 ⟨rfl, rfl⟩
    cases h' with
    | zero =>
      have hks : s.ks = [] := I.out.good
      have hd0 : decide ((s.ks.map T.a).length = 0) = true := by rw [hks]; rfl
      rw [hd0]
      rcases hl : s.l with _ | ⟨x, rest⟩
      · have HF : Hid (hd L = (zE, false)) := hid_mk (by rw [first_leaf I.out, hl]; rfl)
        obtain ⟨Al, cl, rfl, _, _⟩ := HN.out.lany
        rw [hl] at c0
        clear hks hd0 N
        go_wp2_with fail
        (try simp only [Exit.inBlock, Exit.then])
        refine bodyPost_ret (v := .tuple #[.agg #[.string zE.key, .int .i64 zE.id], .bool false]) ?_ rfl ?_
        · simp [results, Try.results29, go_sem, zE, *]
        · exact ⟨by rw [HF.out], (B0.setCell (by simp) _).setCell (by simp) _⟩
      · have HF : Hid (hd L = (x, true)) := hid_mk (by rw [first_leaf I.out, hl]; rfl)
        obtain ⟨gl, lcap, rfl, _, _, hglt, hgc⟩ := HN.out.lshape (by rw [hl]; simp)
        obtain ⟨d0, d1⟩ := hgc 0 (by rw [hl]; simp)
        have hgx : ge s.l 0 = x := by rw [hl]; rfl
        rw [hgx] at d0 d1
        have hne : ¬ s.l.length = 0 := by rw [hl]; simp
        have h1 : (0 : Int) < (s.l.length : Int) := by omega
        simp only [Nat.zero_mul, Nat.zero_add] at d0 d1
        clear hks hd0 N hgc hgx hl
        go_wp2_with fail
        (try simp only [Exit.inBlock, Exit.then])
        refine bodyPost_ret (v := .tuple #[.agg #[.string x.key, .int .i64 x.id], .bool true]) ?_ rfl ?_
        · simp [results, Try.results29, go_sem, *]
        · exact ⟨by rw [HF.out], (B0.setCell (by simp) _).setCell (by simp) _⟩
    | succ h' =>
      have hg2 : s.ks.length = s.l.length + 1 := I.out.good.1
      have hn0 : ¬ (s.ks.map T.a).length = 0 := by rw [List.length_map]; omega
      rw [decide_eq_false hn0]
      obtain ⟨c, k2, hks, I2⟩ := first_step I.out
      have Tc : Tr h' w ω c := by
        have h9 := HT.out
        rw [T.eta s, hks] at h9
        exact (h9.kid (k1 := [])).1
      obtain ⟨gk, kcap, hk2, _, _, hgklt, hkc⟩ := HN.out.kshape (by rw [List.length_map]; omega)
      injection hk2 with q1 q2 q3
      subst q1 q3
      have kc := hkc 0 (by omega)
      have hce : (s.ks.map T.a)[0]'(by omega) = c.a := by simp [hks]
      rw [hce] at kc
      have HI2 := hid_mk I2
      have HTc := hid_mk Tc
      obtain ⟨Q, hQ⟩ : ∃ Q, Q = (s.ks.map T.a).length := ⟨_, rfl⟩
      rw [← hQ] at c1 hn0
      have l1 : (0 : Int) < (Q : Int) := by omega
      clear hkc hce hks I2 Tc hg2 hQ N
      go_wp2_with fail
      go_roundg h'
      case measure => omega
      case rel => exact ⟨rfl, h', c, rfl, rfl, HI2, HTc⟩

end Go.Proofs.Ytaoamkkgiiiejaa
