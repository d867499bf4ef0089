/- The entry behind another one. Printed by genafter.py. -/
import Derived.Test.YtaoamkkgiiiejaaTreeJ
import Derived.Test.YtaoamkkgiiiejaaTreeR
namespace Go.Proofs.Ytaoamkkgiiiejaa
open Go.RowKit
set_option linter.unusedVariables false
attribute [local go_sem ↓] Go.wp_at_zero Go.wp_at_succ


theorem after_ge {e x : E} {l r : List E} (hs : Srt l) (ha : above e l = x :: r) : ge l ((below e l).length + (if e ∈ l then 1 else 0)) = x ∧ (below e l).length + (if e ∈ l then 1 else 0) < l.length := by
  have h1 := srt_split e l hs
  have h2 := after_len (e := e) hs
  rw [ha] at h1 h2
  have hlt : (below e l).length + (if e ∈ l then 1 else 0) < l.length := by rw [h2]; simp
  refine ⟨?_, hlt⟩
  rw [ge_get l _ hlt]
  have h3 : l[(below e l).length + (if e ∈ l then 1 else 0)]? = some x := by
    have hm : (if e ∈ l then 1 else 0) = (if e ∈ l then [e] else []).length := by split <;> rfl
    rw [hm]
    obtain ⟨A, hA⟩ : ∃ A, A = below e l := ⟨_, rfl⟩
    obtain ⟨M, hM⟩ : ∃ M, M = (if e ∈ l then [e] else []) := ⟨_, rfl⟩
    rw [← hA, ← hM] at h1 ⊢
    clear hA hM hm h2 hlt ha hs
    rw [h1, ← List.append_assoc, List.getElem?_append_right (by rw [List.length_append]; omega), List.length_append, Nat.sub_self]
    rfl
  exact (List.getElem?_eq_some_iff.1 h3).2


set_option maxHeartbeats 4000000 in
set_option maxRecDepth 100000 in
theorem after_any (B p : Nat) (L : List E) (F : Nat → Prop) (e : E) (w : World) (H : Tree B w p L F) :
    Calls Try.prog 30 #[.pointer (some ⟨p, 0, none⟩), .agg #[.string e.key, .int .i64 e.id]] w fun r w' => r = .returned (.tuple #[.agg #[.string (hd (above e L)).1.key, .int .i64 (hd (above e L)).1.id], .bool (hd (above e L)).2]) ∧ Below w.heap.size w w' := by
  obtain ⟨h, t, ω, H, rfl, rfl⟩ := H
  have hp := H.lt
  have c0 : w.cell? ⟨p, 0, none⟩ = some (.pointer (some ⟨t.a, 0, none⟩)) := (cell_of_row w p 0 _ _ _ H.blk).trans rfl
  have HOK := hid_mk H.ok
  have HT0 := hid_mk H.tr
  obtain ⟨L, hL⟩ : ∃ L, L = ents h t := ⟨_, rfl⟩
  have I0 : Hid (AfterAt e L h t (zE, false)) := hid_mk ⟨H.good, H.four, hL ▸ H.srt, [], [], by simp [hL], fun x h => by simp at h, fun x h => by simp at h, rfl⟩
  rw [← hL]
  clear hL H
  have m0 := World.new_ne w ⟨p, 0, none⟩ c0
  have m1 : ¬ w.heap.size + 1 = p := by omega
  have m2 : ¬ w.heap.size + 1 + 1 = p := by omega
  have C0 : (((w.alloc (.cells #[.string e.key, .int .i64 e.id] 36)).alloc (.cells #[.string ⟨#[]⟩, .int .i64 0] 36)).alloc (.cells #[.string ⟨#[]⟩, .int .i64 0] 36)).cell? ⟨p, 0, none⟩ = some (.pointer (some ⟨t.a, 0, none⟩)) := keep_cell (bthen (bthen (balloc _) (balloc _)) (balloc _)) c0
  go_enter Try.func30, Try.ntmps30
  go_wp2_with fail
  obtain ⟨w0, hw0⟩ : ∃ w0, w0 = ((w.alloc (.cells #[.string e.key, .int .i64 e.id] 36)).alloc (.cells #[.string ⟨#[]⟩, .int .i64 0] 36)).alloc (.cells #[.string ⟨#[]⟩, .int .i64 0] 36) := ⟨_, rfl⟩
  rw [← hw0]
  have B0 : Below w.heap.size w w0 := by rw [hw0]; exact bthen (bthen (balloc _) (balloc _)) (balloc _)
  have X0 : Hid (w0.heap[w.heap.size]? = some (.cells #[.string e.key, .int .i64 e.id] 36 (0, 0)) ∧ w0.heap[w.heap.size + 1]? = some (.cells #[.string ⟨#[]⟩, .int .i64 0] 36 (0, 0)) ∧ w0.heap[w.heap.size + 2]? = some (.cells #[.string zE.key, .int .i64 zE.id] 36 (0, 0))) := by
    have q1 : (w.alloc (.cells #[.string e.key, .int .i64 e.id] 36)).heap.size = w.heap.size + 1 := by simp
    have q2 : ((w.alloc (.cells #[.string e.key, .int .i64 e.id] 36)).alloc (.cells #[.string ⟨#[]⟩, .int .i64 0] 36)).heap.size = w.heap.size + 2 := by simp
    refine hid_mk ⟨?_, ?_, ?_⟩
    · rw [hw0, heap_alloc_old _ _ (by omega), heap_alloc_old _ _ (by omega)]; exact heap_alloc_new w _
    · rw [hw0, heap_alloc_old _ _ (by omega)]
      have h9 := heap_alloc_new (w.alloc (.cells #[.string e.key, .int .i64 e.id] 36)) (.cells #[.string ⟨#[]⟩, .int .i64 0] 36)
      rw [q1] at h9; exact h9
    · rw [hw0]
      have h9 := heap_alloc_new ((w.alloc (.cells #[.string e.key, .int .i64 e.id] 36)).alloc (.cells #[.string ⟨#[]⟩, .int .i64 0] 36)) (.cells #[.string ⟨#[]⟩, .int .i64 0] 36)
      rw [q2] at h9; exact h9
  clear hw0 c0 C0 m0 m1 m2
  go_loopg [7, 8] h (fun kx s7 s8 wr => ∃ (h' : Nat) (s : T) (st : E × Bool), kx = h' ∧ s7 = .bool st.2 ∧ s8 = .pointer (some ⟨s.a, 0, none⟩) ∧ Hid (AfterAt e L h' s st) ∧ Hid (Tr h' w ω s) ∧ Below w.heap.size w wr ∧
    Hid (wr.heap[w.heap.size]? = some (.cells #[.string e.key, .int .i64 e.id] 36 (0, 0)) ∧ wr.heap[w.heap.size + 1]? = some (.cells #[.string ⟨#[]⟩, .int .i64 0] 36 (0, 0)) ∧ wr.heap[w.heap.size + 2]? = some (.cells #[.string st.1.key, .int .i64 st.1.id] 36 (0, 0))))
  case atStart => exact ⟨h, t, (zE, false), rfl, rfl, rfl, I0, HT0, B0, X0⟩
  case round =>
    clear I0 HT0 B0 X0
    obtain ⟨h', s, st, hkx, rfl, rfl, I, HT, hb, X⟩ := hrel
    have hkx' := hkx.symm
    clear hkx
    subst hkx'
    obtain ⟨v, u, N⟩ := (HT.out.below HOK.out hb).top
    obtain ⟨c0, c1, _, _⟩ := N.cells
    obtain ⟨Al, cl, rfl, _, _⟩ := N.lany
    obtain ⟨Ak, ck, rfl, _, _⟩ := N.kany
    have hsl : s.a < w.heap.size := HT.out.lt (addrs_self _ _)
    have hsrt := srt_top I.out.good I.out.sub
    have hfour := I.out.four
    have e0 := (cell_of_row wr _ 0 _ _ _ X.out.1).trans rfl
    have e1 := (cell_of_row wr _ 1 _ _ _ X.out.1).trans rfl
    have hz : w.heap.size + 2 < wr.heap.size := lt_of_block X.out.2.2
    have HN := hid_mk N
    have HSRT := hid_mk hsrt
    go_wp2_with fail
    refine (find_any s.l e 0 s.a _ _ c0 N.lst HSRT.out (by omega)).mono ?_
    rintro r w1 ⟨rfl, b1⟩
    have hb1 := hb.trans (b1.mono hb.size)
    have c0' := keep_cell b1 c0
    have c1' := keep_cell b1 c1
    have y0 := below_block b1 (lt_of_block X.out.1) X.out.1
    have y1 := below_block b1 (lt_of_block X.out.2.1) X.out.2.1
    have y2 := below_block b1 hz X.out.2.2
    have hz1 : w.heap.size + 2 < w1.heap.size := lt_of_block y2
    have N1 := hid_mk (show Nd w1 ω s.a _ _ s.l _ from N.below (HOK.out.below hb) b1)
    have Y0 := hid_mk y0
    have Y1 := hid_mk y1
    have Y2 := hid_mk y2
    have g0 := (cell_of_row w1 _ 0 _ _ _ y1).trans rfl
    have g1 := (cell_of_row w1 _ 1 _ _ _ y1).trans rfl
    have gf0 : w1.frozen? ⟨w.heap.size + 1, 0, none⟩ = false := by simp [World.frozen?, y1]
    have gf1 : w1.frozen? ⟨w.heap.size + 1, 1, none⟩ = false := by simp [World.frozen?, y1]
    have b0' := (cell_of_row w1 _ 0 _ _ _ y2).trans rfl
    have b1' := (cell_of_row w1 _ 1 _ _ _ y2).trans rfl
    have bf0 : w1.frozen? ⟨w.heap.size + 2, 0, none⟩ = false := by simp [World.frozen?, y2]
    have bf1 : w1.frozen? ⟨w.heap.size + 2, 1, none⟩ = false := by simp [World.frozen?, y2]
    have z1 : ¬ s.a = w.heap.size + 1 := by omega
    have z2 : ¬ s.a = w.heap.size + 2 := by omega
    have z3 : ¬ w.heap.size + 1 = s.a := by omega
    have z4 : ¬ w.heap.size + 2 = s.a := by omega
    obtain ⟨K, hK⟩ : ∃ K, K = (below e s.l).length := ⟨_, rfl⟩
    have hKl : K ≤ s.l.length := by rw [hK]; exact List.length_filter_le _ _
    have HK := hid_mk hK
    rw [← hK]
    have HA := hid_mk c1'
    clear hK c0 c1 e0 e1 y0 y1 y2 N b1 hb hz

    have hlen := after_len (e := e) HSRT.out
    rw [HK.out.symm] at hlen
    by_cases he : e ∈ s.l
    · rcases ha : above e s.l with _ | ⟨x, r⟩
      · rw [ha, if_pos he] at hlen
        have i1 : ¬ ((K : Int) + 1) < (s.l.length : Int) := by simp at hlen; omega
        have NX : Hid (nxt e s.l st = st) := hid_mk (by unfold nxt; rw [ha])
        have hkl : K + 1 ≤ s.l.length := by simp at hlen; omega
        clear hlen ha
        rw [decide_eq_true he]
        have cc1 : w1.cell? ⟨s.a, 1, none⟩ = some (.slice Ak (s.ks.map T.a).length ck) := by
          exact c1'
        go_wp2_with fail
        refine (leaf_any s.a _ ck Ak _ cc1).mono ?_
        rintro r w2 ⟨rfl, rfl⟩
        have hb2 := hb1
        have y2' := Y2.out
        have y1' := Y1.out
        have y0' := Y0.out
        obtain ⟨W2, hW2⟩ : ∃ W2, W2 = w1 := ⟨_, rfl⟩
        rw [← hW2] at hb2 y2' y1' y0' cc1 ⊢
        cases h' with
        | zero =>
          have hks : s.ks = [] := I.out.good
          have hd0 : decide ((s.ks.map T.a).length = 0) = true := by rw [hks]; rfl
          rw [hd0]
          have HF : Hid (hd (above e L) = (st.1, st.2)) := hid_mk ((after_leaf I.out).trans NX.out)
          have j0 := (cell_of_row W2 _ 0 _ _ _ y2').trans rfl
          have j1 := (cell_of_row W2 _ 1 _ _ _ y2').trans rfl
          have k0 := (cell_of_row W2 _ 0 _ _ _ y1').trans rfl
          have k1 := (cell_of_row W2 _ 1 _ _ _ y1').trans rfl
          have kf0 : W2.frozen? ⟨w.heap.size + 1, 0, none⟩ = false := by simp [World.frozen?, y1']
          have kf1 : W2.frozen? ⟨w.heap.size + 1, 1, none⟩ = false := by simp [World.frozen?, y1']
          clear hks hd0 y0' y1' y2' cc1 c0' c1' g0 g1 gf0 gf1 b0' b1' bf0 bf1 hW2
          go_wp2_with fail
          (try simp only [Exit.inBlock, Exit.then])
          refine bodyPost_ret (v := .tuple #[.agg #[.string (st.1).key, .int .i64 (st.1).id], .bool st.2]) ?_ rfl ?_
          · simp [results, Try.results30, go_sem, *]
          · exact ⟨by rw [HF.out], (hb2.setCell (by simp) _).setCell (by simp) _⟩
        | succ h' =>
          have hg2 : s.ks.length = s.l.length + 1 := I.out.good.1
          have hn0 : ¬ (s.ks.map T.a).length = 0 := by rw [List.length_map]; omega
          rw [decide_eq_false hn0]
          obtain ⟨k1, c, k2, hks, hk1, I2⟩ := after_step I.out
          rw [NX.out] at I2
          rw [← HK.out, if_pos he] at hk1
          have hcm : c ∈ s.ks := by rw [hks]; simp
          have Tc : Tr h' w ω c := by
            have h9 := HT.out
            rw [T.eta s, hks] at h9
            exact h9.kid.1
          obtain ⟨gk, kcap, hk2, _, _, hgklt, hkc⟩ := N1.out.kshape (by rw [List.length_map]; omega)
          injection hk2 with q1 q2 q3
          subst q1 q3
          have hkl2 : K + 1 < (s.ks.map T.a).length := by rw [List.length_map, hks]; simp; omega
          have kc := hkc (K + 1) hkl2
          have hce : (s.ks.map T.a)[K + 1] = c.a := by
            have h9 : (s.ks.map T.a)[K + 1]? = some c.a := by
              rw [hks, List.map_append, List.getElem?_append_right (by simp [hk1])]
              simp [hk1]
            exact (List.getElem?_eq_some_iff.1 h9).2
          rw [hce] at kc
          have z6 : gk ≠ w.heap.size + 2 := fun e9 => by
            have h9 := N1.out.ownu gk rfl
            have := (HOK.out gk _ h9).2.1
            omega
          have kc2 : W2.cell? ⟨gk, K + 1, none⟩ = some (.pointer (some ⟨c.a, 0, none⟩)) := by
            have h9 := hb2.block gk (HOK.out gk _ (N1.out.ownu gk rfl)).2.1
            have h8 := hb1.block gk (HOK.out gk _ (N1.out.ownu gk rfl)).2.1
            rw [World.cell?_of_block (w := w1) (h9.trans h8.symm)]
            exact kc
          have l0 : (0 : Int) ≤ (K : Int) + 1 := by omega
          have l1 : (K : Int) + 1 < ((s.ks.map T.a).length : Int) := by omega
          have l2 : ((K : Int) + 1).toNat = K + 1 := by omega
          have HI2 := hid_mk I2
          have HTc := hid_mk Tc
          obtain ⟨Q, hQ⟩ : ∃ Q, Q = (s.ks.map T.a).length := ⟨_, rfl⟩
          rw [← hQ] at cc1 l1
          have XX := hid_mk (And.intro y0' (And.intro y1' y2'))
          clear hkc kc hce hks hk1 I2 Tc hg2 hn0 hcm hkl2 hQ c0' c1' y0' y1' y2' HA g0 g1 gf0 gf1 b0' b1' bf0 bf1 hW2
          go_wp2_with fail
          go_roundg h'
          case measure => omega
          case rel => exact ⟨h', c, (st.1, st.2), rfl, rfl, rfl, HI2, HTc, hb2, XX⟩
      · obtain ⟨hge, hgl⟩ := after_ge HSRT.out ha
        rw [if_pos he, ← HK.out] at hge hgl
        
        obtain ⟨gl, lcap, hsl2, _, _, hglt, hgc⟩ := N1.out.lshape (by omega)
        injection hsl2 with q1 q2 q3
        subst q1 q3
        obtain ⟨d0, d1⟩ := hgc (K + 1) hgl
        rw [hge] at d0 d1
        have i0 : (0 : Int) ≤ ((K : Int) + 1) := by omega
        have i1 : ((K : Int) + 1) < (s.l.length : Int) := by omega
        have i2 : ((K : Int) + 1).toNat = K + 1 := by omega
        have NX : Hid (nxt e s.l st = (x, true)) := hid_mk (by unfold nxt; rw [ha])
        have z5 : ¬ gl = w.heap.size + 2 := fun e9 => by
          have h9 := N1.out.ownv gl rfl
          have := (HOK.out gl _ h9).2.1
          omega
        clear hgc hge hlen ha
        rw [decide_eq_true he]
        have cc1 : ((w1.setCell ⟨w.heap.size + 2, 0, none⟩ (.string x.key)).setCell ⟨w.heap.size + 2, 1, none⟩ (.int .i64 x.id)).cell? ⟨s.a, 1, none⟩ = some (.slice Ak (s.ks.map T.a).length ck) := by
          rw [World.cell?_setCell_other _ _ _ _ (by intro e9; injection e9 <;> omega), World.cell?_setCell_other _ _ _ _ (by intro e9; injection e9 <;> omega)]; exact c1'
        go_wp2_with fail
        refine (leaf_any s.a _ ck Ak _ cc1).mono ?_
        rintro r w2 ⟨rfl, rfl⟩
        have hb2 : Below w.heap.size w ((w1.setCell ⟨w.heap.size + 2, 0, none⟩ (.string x.key)).setCell ⟨w.heap.size + 2, 1, none⟩ (.int .i64 x.id)) := (hb1.setCell (by simp) _).setCell (by simp) _
        have y2' : ((w1.setCell ⟨w.heap.size + 2, 0, none⟩ (.string x.key)).setCell ⟨w.heap.size + 2, 1, none⟩ (.int .i64 x.id)).heap[w.heap.size + 2]? = some (.cells #[.string x.key, .int .i64 x.id] 36 (0, 0)) := block_setCell (block_setCell Y2.out 0 _ (by simp)) 1 _ (by simp)
        have y1' : ((w1.setCell ⟨w.heap.size + 2, 0, none⟩ (.string x.key)).setCell ⟨w.heap.size + 2, 1, none⟩ (.int .i64 x.id)).heap[w.heap.size + 1]? = some (.cells #[.string ⟨#[]⟩, .int .i64 0] 36 (0, 0)) := (heap_setCell_other _ _ _ _ (by simp)).trans ((heap_setCell_other _ _ _ _ (by simp)).trans Y1.out)
        have y0' : ((w1.setCell ⟨w.heap.size + 2, 0, none⟩ (.string x.key)).setCell ⟨w.heap.size + 2, 1, none⟩ (.int .i64 x.id)).heap[w.heap.size]? = some (.cells #[.string e.key, .int .i64 e.id] 36 (0, 0)) := (heap_setCell_other _ _ _ _ (by simp)).trans ((heap_setCell_other _ _ _ _ (by simp)).trans Y0.out)
        obtain ⟨W2, hW2⟩ : ∃ W2, W2 = ((w1.setCell ⟨w.heap.size + 2, 0, none⟩ (.string x.key)).setCell ⟨w.heap.size + 2, 1, none⟩ (.int .i64 x.id)) := ⟨_, rfl⟩
        rw [← hW2] at hb2 y2' y1' y0' cc1 ⊢
        clear hW2
        cases h' with
        | zero =>
          have hks : s.ks = [] := I.out.good
          have hd0 : decide ((s.ks.map T.a).length = 0) = true := by rw [hks]; rfl
          rw [hd0]
          have HF : Hid (hd (above e L) = (x, true)) := hid_mk ((after_leaf I.out).trans NX.out)
          have j0 := (cell_of_row W2 _ 0 _ _ _ y2').trans rfl
          have j1 := (cell_of_row W2 _ 1 _ _ _ y2').trans rfl
          have k0 := (cell_of_row W2 _ 0 _ _ _ y1').trans rfl
          have k1 := (cell_of_row W2 _ 1 _ _ _ y1').trans rfl
          have kf0 : W2.frozen? ⟨w.heap.size + 1, 0, none⟩ = false := by simp [World.frozen?, y1']
          have kf1 : W2.frozen? ⟨w.heap.size + 1, 1, none⟩ = false := by simp [World.frozen?, y1']
          clear hks hd0 y0' y1' y2' cc1 c0' c1' g0 g1 gf0 gf1 b0' b1' bf0 bf1 d0 d1
          go_wp2_with fail
          (try simp only [Exit.inBlock, Exit.then])
          refine bodyPost_ret (v := .tuple #[.agg #[.string (x).key, .int .i64 (x).id], .bool true]) ?_ rfl ?_
          · simp [results, Try.results30, go_sem, *]
          · exact ⟨by rw [HF.out], (hb2.setCell (by simp) _).setCell (by simp) _⟩
        | succ h' =>
          have hg2 : s.ks.length = s.l.length + 1 := I.out.good.1
          have hn0 : ¬ (s.ks.map T.a).length = 0 := by rw [List.length_map]; omega
          rw [decide_eq_false hn0]
          obtain ⟨k1, c, k2, hks, hk1, I2⟩ := after_step I.out
          rw [NX.out] at I2
          rw [← HK.out, if_pos he] at hk1
          have hcm : c ∈ s.ks := by rw [hks]; simp
          have Tc : Tr h' w ω c := by
            have h9 := HT.out
            rw [T.eta s, hks] at h9
            exact h9.kid.1
          obtain ⟨gk, kcap, hk2, _, _, hgklt, hkc⟩ := N1.out.kshape (by rw [List.length_map]; omega)
          injection hk2 with q1 q2 q3
          subst q1 q3
          have hkl2 : K + 1 < (s.ks.map T.a).length := by rw [List.length_map, hks]; simp; omega
          have kc := hkc (K + 1) hkl2
          have hce : (s.ks.map T.a)[K + 1] = c.a := by
            have h9 : (s.ks.map T.a)[K + 1]? = some c.a := by
              rw [hks, List.map_append, List.getElem?_append_right (by simp [hk1])]
              simp [hk1]
            exact (List.getElem?_eq_some_iff.1 h9).2
          rw [hce] at kc
          have z6 : gk ≠ w.heap.size + 2 := fun e9 => by
            have h9 := N1.out.ownu gk rfl
            have := (HOK.out gk _ h9).2.1
            omega
          have kc2 : W2.cell? ⟨gk, K + 1, none⟩ = some (.pointer (some ⟨c.a, 0, none⟩)) := by
            have h9 := hb2.block gk (HOK.out gk _ (N1.out.ownu gk rfl)).2.1
            have h8 := hb1.block gk (HOK.out gk _ (N1.out.ownu gk rfl)).2.1
            rw [World.cell?_of_block (w := w1) (h9.trans h8.symm)]
            exact kc
          have l0 : (0 : Int) ≤ (K : Int) + 1 := by omega
          have l1 : (K : Int) + 1 < ((s.ks.map T.a).length : Int) := by omega
          have l2 : ((K : Int) + 1).toNat = K + 1 := by omega
          have HI2 := hid_mk I2
          have HTc := hid_mk Tc
          obtain ⟨Q, hQ⟩ : ∃ Q, Q = (s.ks.map T.a).length := ⟨_, rfl⟩
          rw [← hQ] at cc1 l1
          have XX := hid_mk (And.intro y0' (And.intro y1' y2'))
          clear hkc kc hce hks hk1 I2 Tc hg2 hn0 hcm hkl2 hQ c0' c1' y0' y1' y2' HA g0 g1 gf0 gf1 b0' b1' bf0 bf1 d0 d1
          go_wp2_with fail
          go_roundg h'
          case measure => omega
          case rel => exact ⟨h', c, (x, true), rfl, rfl, rfl, HI2, HTc, hb2, XX⟩
    · rcases ha : above e s.l with _ | ⟨x, r⟩
      · rw [ha, if_neg he] at hlen
        have i1 : ¬ ((K : Int)) < (s.l.length : Int) := by simp at hlen; omega
        have NX : Hid (nxt e s.l st = st) := hid_mk (by unfold nxt; rw [ha])
        have hkl : K ≤ s.l.length := by simp at hlen; omega
        clear hlen ha
        rw [decide_eq_false he]
        have cc1 : w1.cell? ⟨s.a, 1, none⟩ = some (.slice Ak (s.ks.map T.a).length ck) := by
          exact c1'
        go_wp2_with fail
        refine (leaf_any s.a _ ck Ak _ cc1).mono ?_
        rintro r w2 ⟨rfl, rfl⟩
        have hb2 := hb1
        have y2' := Y2.out
        have y1' := Y1.out
        have y0' := Y0.out
        obtain ⟨W2, hW2⟩ : ∃ W2, W2 = w1 := ⟨_, rfl⟩
        rw [← hW2] at hb2 y2' y1' y0' cc1 ⊢
        cases h' with
        | zero =>
          have hks : s.ks = [] := I.out.good
          have hd0 : decide ((s.ks.map T.a).length = 0) = true := by rw [hks]; rfl
          rw [hd0]
          have HF : Hid (hd (above e L) = (st.1, st.2)) := hid_mk ((after_leaf I.out).trans NX.out)
          have j0 := (cell_of_row W2 _ 0 _ _ _ y2').trans rfl
          have j1 := (cell_of_row W2 _ 1 _ _ _ y2').trans rfl
          have k0 := (cell_of_row W2 _ 0 _ _ _ y1').trans rfl
          have k1 := (cell_of_row W2 _ 1 _ _ _ y1').trans rfl
          have kf0 : W2.frozen? ⟨w.heap.size + 1, 0, none⟩ = false := by simp [World.frozen?, y1']
          have kf1 : W2.frozen? ⟨w.heap.size + 1, 1, none⟩ = false := by simp [World.frozen?, y1']
          clear hks hd0 y0' y1' y2' cc1 c0' c1' g0 g1 gf0 gf1 b0' b1' bf0 bf1 hW2
          go_wp2_with fail
          (try simp only [Exit.inBlock, Exit.then])
          refine bodyPost_ret (v := .tuple #[.agg #[.string (st.1).key, .int .i64 (st.1).id], .bool st.2]) ?_ rfl ?_
          · simp [results, Try.results30, go_sem, *]
          · exact ⟨by rw [HF.out], (hb2.setCell (by simp) _).setCell (by simp) _⟩
        | succ h' =>
          have hg2 : s.ks.length = s.l.length + 1 := I.out.good.1
          have hn0 : ¬ (s.ks.map T.a).length = 0 := by rw [List.length_map]; omega
          rw [decide_eq_false hn0]
          obtain ⟨k1, c, k2, hks, hk1, I2⟩ := after_step I.out
          rw [NX.out] at I2
          rw [← HK.out, if_neg he, Nat.add_zero] at hk1
          have hcm : c ∈ s.ks := by rw [hks]; simp
          have Tc : Tr h' w ω c := by
            have h9 := HT.out
            rw [T.eta s, hks] at h9
            exact h9.kid.1
          obtain ⟨gk, kcap, hk2, _, _, hgklt, hkc⟩ := N1.out.kshape (by rw [List.length_map]; omega)
          injection hk2 with q1 q2 q3
          subst q1 q3
          have hkl2 : K < (s.ks.map T.a).length := by rw [List.length_map, hks]; simp; omega
          have kc := hkc (K) hkl2
          have hce : (s.ks.map T.a)[K] = c.a := by
            have h9 : (s.ks.map T.a)[K]? = some c.a := by
              rw [hks, List.map_append, List.getElem?_append_right (by simp [hk1])]
              simp [hk1]
            exact (List.getElem?_eq_some_iff.1 h9).2
          rw [hce] at kc
          have z6 : gk ≠ w.heap.size + 2 := fun e9 => by
            have h9 := N1.out.ownu gk rfl
            have := (HOK.out gk _ h9).2.1
            omega
          have kc2 : W2.cell? ⟨gk, K, none⟩ = some (.pointer (some ⟨c.a, 0, none⟩)) := by
            have h9 := hb2.block gk (HOK.out gk _ (N1.out.ownu gk rfl)).2.1
            have h8 := hb1.block gk (HOK.out gk _ (N1.out.ownu gk rfl)).2.1
            rw [World.cell?_of_block (w := w1) (h9.trans h8.symm)]
            exact kc
          have l0 : (0 : Int) ≤ (K : Int) := by omega
          have l1 : (K : Int) < ((s.ks.map T.a).length : Int) := by omega
          have l2 : ((K : Int)).toNat = K := by omega
          have HI2 := hid_mk I2
          have HTc := hid_mk Tc
          obtain ⟨Q, hQ⟩ : ∃ Q, Q = (s.ks.map T.a).length := ⟨_, rfl⟩
          rw [← hQ] at cc1 l1
          have XX := hid_mk (And.intro y0' (And.intro y1' y2'))
          clear hkc kc hce hks hk1 I2 Tc hg2 hn0 hcm hkl2 hQ c0' c1' y0' y1' y2' HA g0 g1 gf0 gf1 b0' b1' bf0 bf1 hW2
          go_wp2_with fail
          go_roundg h'
          case measure => omega
          case rel => exact ⟨h', c, (st.1, st.2), rfl, rfl, rfl, HI2, HTc, hb2, XX⟩
      · obtain ⟨hge, hgl⟩ := after_ge HSRT.out ha
        rw [if_neg he, ← HK.out] at hge hgl
        rw [Nat.add_zero] at hge hgl
        obtain ⟨gl, lcap, hsl2, _, _, hglt, hgc⟩ := N1.out.lshape (by omega)
        injection hsl2 with q1 q2 q3
        subst q1 q3
        obtain ⟨d0, d1⟩ := hgc (K) hgl
        rw [hge] at d0 d1
        have i0 : (0 : Int) ≤ ((K : Int)) := by omega
        have i1 : ((K : Int)) < (s.l.length : Int) := by omega
        have i2 : ((K : Int)).toNat = K := by omega
        have NX : Hid (nxt e s.l st = (x, true)) := hid_mk (by unfold nxt; rw [ha])
        have z5 : ¬ gl = w.heap.size + 2 := fun e9 => by
          have h9 := N1.out.ownv gl rfl
          have := (HOK.out gl _ h9).2.1
          omega
        clear hgc hge hlen ha
        rw [decide_eq_false he]
        have cc1 : ((w1.setCell ⟨w.heap.size + 2, 0, none⟩ (.string x.key)).setCell ⟨w.heap.size + 2, 1, none⟩ (.int .i64 x.id)).cell? ⟨s.a, 1, none⟩ = some (.slice Ak (s.ks.map T.a).length ck) := by
          rw [World.cell?_setCell_other _ _ _ _ (by intro e9; injection e9 <;> omega), World.cell?_setCell_other _ _ _ _ (by intro e9; injection e9 <;> omega)]; exact c1'
        go_wp2_with fail
        refine (leaf_any s.a _ ck Ak _ cc1).mono ?_
        rintro r w2 ⟨rfl, rfl⟩
        have hb2 : Below w.heap.size w ((w1.setCell ⟨w.heap.size + 2, 0, none⟩ (.string x.key)).setCell ⟨w.heap.size + 2, 1, none⟩ (.int .i64 x.id)) := (hb1.setCell (by simp) _).setCell (by simp) _
        have y2' : ((w1.setCell ⟨w.heap.size + 2, 0, none⟩ (.string x.key)).setCell ⟨w.heap.size + 2, 1, none⟩ (.int .i64 x.id)).heap[w.heap.size + 2]? = some (.cells #[.string x.key, .int .i64 x.id] 36 (0, 0)) := block_setCell (block_setCell Y2.out 0 _ (by simp)) 1 _ (by simp)
        have y1' : ((w1.setCell ⟨w.heap.size + 2, 0, none⟩ (.string x.key)).setCell ⟨w.heap.size + 2, 1, none⟩ (.int .i64 x.id)).heap[w.heap.size + 1]? = some (.cells #[.string ⟨#[]⟩, .int .i64 0] 36 (0, 0)) := (heap_setCell_other _ _ _ _ (by simp)).trans ((heap_setCell_other _ _ _ _ (by simp)).trans Y1.out)
        have y0' : ((w1.setCell ⟨w.heap.size + 2, 0, none⟩ (.string x.key)).setCell ⟨w.heap.size + 2, 1, none⟩ (.int .i64 x.id)).heap[w.heap.size]? = some (.cells #[.string e.key, .int .i64 e.id] 36 (0, 0)) := (heap_setCell_other _ _ _ _ (by simp)).trans ((heap_setCell_other _ _ _ _ (by simp)).trans Y0.out)
        obtain ⟨W2, hW2⟩ : ∃ W2, W2 = ((w1.setCell ⟨w.heap.size + 2, 0, none⟩ (.string x.key)).setCell ⟨w.heap.size + 2, 1, none⟩ (.int .i64 x.id)) := ⟨_, rfl⟩
        rw [← hW2] at hb2 y2' y1' y0' cc1 ⊢
        clear hW2
        cases h' with
        | zero =>
          have hks : s.ks = [] := I.out.good
          have hd0 : decide ((s.ks.map T.a).length = 0) = true := by rw [hks]; rfl
          rw [hd0]
          have HF : Hid (hd (above e L) = (x, true)) := hid_mk ((after_leaf I.out).trans NX.out)
          have j0 := (cell_of_row W2 _ 0 _ _ _ y2').trans rfl
          have j1 := (cell_of_row W2 _ 1 _ _ _ y2').trans rfl
          have k0 := (cell_of_row W2 _ 0 _ _ _ y1').trans rfl
          have k1 := (cell_of_row W2 _ 1 _ _ _ y1').trans rfl
          have kf0 : W2.frozen? ⟨w.heap.size + 1, 0, none⟩ = false := by simp [World.frozen?, y1']
          have kf1 : W2.frozen? ⟨w.heap.size + 1, 1, none⟩ = false := by simp [World.frozen?, y1']
          clear hks hd0 y0' y1' y2' cc1 c0' c1' g0 g1 gf0 gf1 b0' b1' bf0 bf1 d0 d1
          go_wp2_with fail
          (try simp only [Exit.inBlock, Exit.then])
          refine bodyPost_ret (v := .tuple #[.agg #[.string (x).key, .int .i64 (x).id], .bool true]) ?_ rfl ?_
          · simp [results, Try.results30, go_sem, *]
          · exact ⟨by rw [HF.out], (hb2.setCell (by simp) _).setCell (by simp) _⟩
        | succ h' =>
          have hg2 : s.ks.length = s.l.length + 1 := I.out.good.1
          have hn0 : ¬ (s.ks.map T.a).length = 0 := by rw [List.length_map]; omega
          rw [decide_eq_false hn0]
          obtain ⟨k1, c, k2, hks, hk1, I2⟩ := after_step I.out
          rw [NX.out] at I2
          rw [← HK.out, if_neg he, Nat.add_zero] at hk1
          have hcm : c ∈ s.ks := by rw [hks]; simp
          have Tc : Tr h' w ω c := by
            have h9 := HT.out
            rw [T.eta s, hks] at h9
            exact h9.kid.1
          obtain ⟨gk, kcap, hk2, _, _, hgklt, hkc⟩ := N1.out.kshape (by rw [List.length_map]; omega)
          injection hk2 with q1 q2 q3
          subst q1 q3
          have hkl2 : K < (s.ks.map T.a).length := by rw [List.length_map, hks]; simp; omega
          have kc := hkc (K) hkl2
          have hce : (s.ks.map T.a)[K] = c.a := by
            have h9 : (s.ks.map T.a)[K]? = some c.a := by
              rw [hks, List.map_append, List.getElem?_append_right (by simp [hk1])]
              simp [hk1]
            exact (List.getElem?_eq_some_iff.1 h9).2
          rw [hce] at kc
          have z6 : gk ≠ w.heap.size + 2 := fun e9 => by
            have h9 := N1.out.ownu gk rfl
            have := (HOK.out gk _ h9).2.1
            omega
          have kc2 : W2.cell? ⟨gk, K, none⟩ = some (.pointer (some ⟨c.a, 0, none⟩)) := by
            have h9 := hb2.block gk (HOK.out gk _ (N1.out.ownu gk rfl)).2.1
            have h8 := hb1.block gk (HOK.out gk _ (N1.out.ownu gk rfl)).2.1
            rw [World.cell?_of_block (w := w1) (h9.trans h8.symm)]
            exact kc
          have l0 : (0 : Int) ≤ (K : Int) := by omega
          have l1 : (K : Int) < ((s.ks.map T.a).length : Int) := by omega
          have l2 : ((K : Int)).toNat = K := by omega
          have HI2 := hid_mk I2
          have HTc := hid_mk Tc
          obtain ⟨Q, hQ⟩ : ∃ Q, Q = (s.ks.map T.a).length := ⟨_, rfl⟩
          rw [← hQ] at cc1 l1
          have XX := hid_mk (And.intro y0' (And.intro y1' y2'))
          clear hkc kc hce hks hk1 I2 Tc hg2 hn0 hcm hkl2 hQ c0' c1' y0' y1' y2' HA g0 g1 gf0 gf1 b0' b1' bf0 bf1 d0 d1
          go_wp2_with fail
          go_roundg h'
          case measure => omega
          case rel => exact ⟨h', c, (x, true), rfl, rfl, rfl, HI2, HTc, hb2, XX⟩

end Go.Proofs.Ytaoamkkgiiiejaa
