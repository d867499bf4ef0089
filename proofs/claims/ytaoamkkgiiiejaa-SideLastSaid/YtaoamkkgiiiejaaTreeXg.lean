/- The last entry below a node. -/
import Derived.Test.YtaoamkkgiiiejaaTreeV
namespace Go.Proofs.Ytaoamkkgiiiejaa
open Go.RowKit
set_option linter.unusedVariables false
attribute [local go_sem ↓] Go.wp_at_zero Go.wp_at_succ

structure LastAt (L : List E) (h : Nat) (s : T) : Prop where
  good : Good h s
  one : 1 ≤ s.l.length
  at_ : ∃ P, L = P ++ ents h s
theorem last_leaf {L : List E} {s : T} (H : LastAt L 0 s) : tl L = (ge s.l (s.l.length - 1), true) := by
  obtain ⟨P, hL⟩ := H.at_
  have hL' : L = P ++ s.l := hL
  have h1 := H.one
  rw [hL', tl_append]
  have h2 : s.l.getLast? = some (ge s.l (s.l.length - 1)) := by
    rw [List.getLast?_eq_getElem?, List.getElem?_eq_getElem (by omega), ge_get _ _ (by omega)]
  rw [h2]
theorem last_step {L : List E} {h : Nat} {s : T} (H : LastAt L (h + 1) s) : ∃ k1 c, s.ks = k1 ++ c :: [] ∧ k1.length = s.l.length ∧ LastAt L h c := by
  obtain ⟨P, hL⟩ := H.at_
  obtain ⟨k1, c, k2, h1, h2, h3, h4, h5, h6⟩ := ents_split2 s.l [] (by simp) H.good
  have hk2 : k2 = [] := List.eq_nil_of_length_eq_zero h3
  subst hk2
  have hc := H.good.2 c (by rw [h1]; simp)
  refine ⟨k1, c, h1, h2, ⟨h5, by omega, P ++ pre s.l (k1.map (ents h)), ?_⟩⟩
  rw [hL, h4]
  simp [post]

set_option maxHeartbeats 2000000 in
set_option maxRecDepth 100000 in
theorem greatest_any (B h : Nat) (t : T) (ω : Ow) (w : World) (hg : Good h t) (h1 : 1 ≤ t.l.length) (ht : Tr h w ω t) (hok : Okw B w ω) :
    Calls Try.prog 39 #[.pointer (some ⟨t.a, 0, none⟩)] w fun r w' => r = .returned (.agg #[.string (tl (ents h t)).1.key, .int .i64 (tl (ents h t)).1.id]) ∧ Below w.heap.size w w' := by
  have HOK := hid_mk hok
  have HT0 := hid_mk ht
  obtain ⟨L, hL⟩ : ∃ L, L = ents h t := ⟨_, rfl⟩
  have I0 : Hid (LastAt L h t) := hid_mk ⟨hg, h1, [], by simp [hL]⟩
  rw [← hL]
  clear hL hg h1 ht hok
  go_enter Try.func39, Try.ntmps39
  go_wp2_with fail
  obtain ⟨w0, hw0⟩ : ∃ w0, w0 = w.alloc (.cells #[.string ⟨#[]⟩, .int .i64 0] 36) := ⟨_, rfl⟩
  rw [← hw0]
  have B0 : Below w.heap.size w w0 := by rw [hw0]; exact balloc _
  have x0 : Hid (w0.heap[w.heap.size]? = some (.cells #[.string ⟨#[]⟩, .int .i64 0] 36 (0, 0))) := hid_mk (by rw [hw0]; exact heap_alloc_new w _)
  clear hw0
  go_loopg [0] h (fun kx s0 wr => ∃ (h' : Nat) (s : T), kx = h' ∧ s0 = .pointer (some ⟨s.a, 0, none⟩) ∧ Hid (LastAt L h' s) ∧ Hid (Tr h' w ω s) ∧ Below w.heap.size w wr ∧ Hid (wr.heap[w.heap.size]? = some (.cells #[.string ⟨#[]⟩, .int .i64 0] 36 (0, 0))))
  case atStart => exact ⟨h, t, rfl, rfl, I0, HT0, B0, x0⟩
  case round =>
    clear I0 HT0 x0 B0
    obtain ⟨h', s, hkx, rfl, I, HT, hb, X⟩ := hrel
    have hkx' := hkx.symm
    clear hkx
    subst hkx'
    obtain ⟨v, u, N⟩ := (HT.out.below HOK.out hb).top
    obtain ⟨c0, c1, _, _⟩ := N.cells
    obtain ⟨Ak, ck, rfl, _, _⟩ := N.kany
    have HN := hid_mk N
    go_wp2_with fail
    refine (leaf_any s.a _ ck Ak _ c1).mono ?_
    rintro r w2 ⟨rfl, rfl⟩
    cases h' with
    | zero =>
      have hks : s.ks = [] := I.out.good
      have hd0 : decide ((s.ks.map T.a).length = 0) = true := by rw [hks]; rfl
      rw [hd0]
      obtain ⟨M, hM⟩ : ∃ M, s.l.length = M + 1 := ⟨s.l.length - 1, by have := I.out.one; omega⟩
      have HF : Hid (tl L = (ge s.l M, true)) := hid_mk (by have h9 := last_leaf I.out; rw [hM, Nat.add_sub_cancel] at h9; exact h9)
      obtain ⟨gl, lcap, rfl, hlc, hlm, hglt, hgc⟩ := HN.out.lshape (by omega)
      obtain ⟨d0, d1⟩ := hgc M (by omega)
      obtain ⟨Q, hQ⟩ : ∃ Q, Q = s.l.length := ⟨_, rfl⟩
      rw [← hQ] at c0 hlc hM
      have hs1 : IntKind.i64.wrap ((Q : Int) - 1) = (M : Int) := by rw [IntKind.wrap_i64]; omega
      obtain ⟨x, hx⟩ : ∃ x, x = ge s.l M := ⟨_, rfl⟩
      rw [← hx] at d0 d1 HF
      have i0 : (0 : Int) ≤ (M : Int) := by omega
      have i1 : (M : Int) < (Q : Int) := by omega
      have k0 := (cell_of_row wr _ 0 _ _ _ X.out).trans rfl
      have k1 := (cell_of_row wr _ 1 _ _ _ X.out).trans rfl
      have kf0 : wr.frozen? ⟨w.heap.size, 0, none⟩ = false := by simp [World.frozen?, X.out]
      have kf1 : wr.frozen? ⟨w.heap.size, 1, none⟩ = false := by simp [World.frozen?, X.out]
      have hga : gl < w.heap.size := (HOK.out gl _ (HN.out.ownv gl rfl)).2.1
      have hsa : s.a < w.heap.size := HT.out.lt (addrs_self _ _)
      have z1 : ¬ w.heap.size = gl := by omega
      have z2 : ¬ w.heap.size = s.a := by omega
      have z3 : ¬ gl = w.heap.size := by omega
      have z4 : ¬ s.a = w.heap.size := by omega
      clear hks hd0 N hgc hx hM hQ
      go_wp2_with fail
      go_region_held3 (fun w' => w'.cell? ⟨s.a, 0, none⟩ = some (.slice (some ⟨gl, 0, none⟩) Q lcap) ∧ w'.cell? ⟨gl, M * 2, none⟩ = some (.string x.key) ∧ w'.cell? ⟨gl, M * 2 + 1, none⟩ = some (.int .i64 x.id)) (go_keep) (fail)
      go_wp2_with fail
      (try simp only [Exit.inBlock, Exit.then])
      refine bodyPost_ret (v := .agg #[.string x.key, .int .i64 x.id]) ?_ rfl ?_
      · simp [results, Try.results39, go_sem, *]
      · exact ⟨by rw [HF.out], pw_below (n := 1) ((hb.setCell (by simp) _).setCell (by simp) _)⟩
    | succ h' =>
      have hg2 : s.ks.length = s.l.length + 1 := I.out.good.1
      have hn0 : ¬ (s.ks.map T.a).length = 0 := by rw [List.length_map]; omega
      rw [decide_eq_false hn0]
      obtain ⟨k1, c, hks, hk1, I2⟩ := last_step I.out
      have Tc : Tr h' w ω c := by
        have h9 := HT.out
        rw [T.eta s, hks] at h9
        exact h9.kid.1
      obtain ⟨gk, kcap, hk2, hkc1, hkc2, hgklt, hkc⟩ := HN.out.kshape (by rw [List.length_map]; omega)
      injection hk2 with q1 q2 q3
      subst q1 q3
      obtain ⟨M, hM⟩ : ∃ M, M = s.l.length := ⟨_, rfl⟩
      have hQ : (s.ks.map T.a).length = M + 1 := by rw [List.length_map, hg2, hM]
      have kc := hkc M (by omega)
      have hce : (s.ks.map T.a)[M]'(by omega) = c.a := by
        have h9 : (s.ks.map T.a)[M]? = some c.a := by
          rw [hks, List.map_append, List.getElem?_append_right (by simp [hk1, hM])]
          simp [hk1, hM]
        exact (List.getElem?_eq_some_iff.1 h9).2
      rw [hce] at kc
      have HI2 := hid_mk I2
      have HTc := hid_mk Tc
      obtain ⟨Q, hQ2⟩ : ∃ Q, Q = (s.ks.map T.a).length := ⟨_, rfl⟩
      rw [← hQ2] at c1 hQ
      have hs1 : IntKind.i64.wrap ((Q : Int) - 1) = (M : Int) := by rw [IntKind.wrap_i64]; omega
      have l0 : (0 : Int) ≤ (M : Int) := by omega
      have l1 : (M : Int) < (Q : Int) := by omega
      clear hkc hce hks hk1 I2 Tc hg2 hQ hQ2 N hM hn0
      go_wp2_with fail
      go_quiet (fail)
      go_wp2_with fail
      go_roundg h'
      case measure => omega
      case rel => exact ⟨h', c, rfl, rfl, HI2, HTc, pw_below hb, X⟩

end Go.Proofs.Ytaoamkkgiiiejaa
