/- The first entry of a tree; how many there are. -/
import Derived.Test.YtaoamkkgiiiejaaTreeV
namespace Go.Proofs.Ytaoamkkgiiiejaa
open Go.RowKit
set_option linter.unusedVariables false
attribute [local go_sem ↓] Go.wp_at_zero Go.wp_at_succ

theorem len_any (B p : Nat) (L : List E) (F : Nat → Prop) (w : World) (H : Tree B w p L F) :
    Calls Try.prog 16 #[.pointer (some ⟨p, 0, none⟩)] w fun r w' => r = .returned (.int .i64 (L.length : Nat)) ∧ w = w' := by
  obtain ⟨h, t, ω, H, rfl, rfl⟩ := H
  have c1 : w.cell? ⟨p, 1, none⟩ = some (.int .i64 ((ents h t).length : Nat)) := (cell_of_row w p 1 _ _ _ H.blk).trans rfl
  go_enter Try.func16, Try.ntmps16
  go_wp2_with fail
  go_ret
  exact ⟨rfl, rfl⟩

structure FirstAt (L : List E) (h : Nat) (s : T) : Prop where
  good : Good h s
  four : s.l.length ≤ 4
  at_ : ∃ Q, L = ents h s ++ Q ∧ (ents h s = [] → Q = [])
theorem first_leaf {L : List E} {s : T} (H : FirstAt L 0 s) : hd L = hd s.l := by
  obtain ⟨Q, hL, hQ⟩ := H.at_
  have hL' : L = s.l ++ Q := hL
  rw [hL']
  rcases hs : s.l with _ | ⟨x, r⟩
  · rw [hQ hs]; rfl
  · rfl
theorem first_step {L : List E} {h : Nat} {s : T} (H : FirstAt L (h + 1) s) : ∃ c k2, s.ks = c :: k2 ∧ FirstAt L h c := by
  obtain ⟨Q, hL, hQ⟩ := H.at_
  obtain ⟨hk, hall⟩ := H.good
  rcases hks : s.ks with _ | ⟨c, k2⟩
  · rw [hks] at hk; simp at hk
  · have hc := hall c (by rw [hks]; simp)
    refine ⟨c, k2, rfl, ⟨hc.1, hc.2.2, post s.l (k2.map (ents h)) ++ Q, ?_, fun h9 => ?_⟩⟩
    · rw [hL]
      have e : ents (h + 1) s = ents h c ++ post s.l (k2.map (ents h)) := by
        show inter s.l (s.ks.map (ents h)) = _
        rw [hks]; rfl
      rw [e, List.append_assoc]
    · exfalso
      have h8 : ge c.l 0 ∈ ents h c := mem_top hc.1 (ge_mem c.l 0 (by omega))
      rw [h9] at h8
      simp at h8

set_option maxHeartbeats 2000000 in
set_option maxRecDepth 100000 in
theorem first_any (B p : Nat) (L : List E) (F : Nat → Prop) (w : World) (H : Tree B w p L F) :
    Calls Try.prog 29 #[.pointer (some ⟨p, 0, none⟩)] w fun r w' => r = .returned (.tuple #[.agg #[.string (hd L).1.key, .int .i64 (hd L).1.id], .bool (hd L).2]) ∧ Below w.heap.size w w' := by
  obtain ⟨h, t, ω, H, rfl, rfl⟩ := H
  have hp := H.lt
  have c0 : w.cell? ⟨p, 0, none⟩ = some (.pointer (some ⟨t.a, 0, none⟩)) := (cell_of_row w p 0 _ _ _ H.blk).trans rfl
  have HOK := hid_mk H.ok
  have HT0 := hid_mk H.tr
  obtain ⟨L, hL⟩ : ∃ L, L = ents h t := ⟨_, rfl⟩
  have I0 : Hid (FirstAt L h t) := hid_mk ⟨H.good, H.four, [], by simp [hL], fun _ => rfl⟩
  rw [← hL]
  have m0 := World.new_ne w ⟨p, 0, none⟩ c0
  clear hL H
  go_enter Try.func29, Try.ntmps29
  go_wp2_with fail
  obtain ⟨w0, hw0⟩ : ∃ w0, w0 = w.alloc (.cells #[.string ⟨#[]⟩, .int .i64 0] 36) := ⟨_, rfl⟩
  rw [← hw0]
  have B0 : Below w.heap.size w w0 := by rw [hw0]; exact balloc _
  have x0 : w0.heap[w.heap.size]? = some (.cells #[.string ⟨#[]⟩, .int .i64 0] 36 (0, 0)) := by rw [hw0]; exact heap_alloc_new w _
  have k0 := (cell_of_row w0 _ 0 _ _ _ x0).trans rfl
  have k1 := (cell_of_row w0 _ 1 _ _ _ x0).trans rfl
  have kf0 : w0.frozen? ⟨w.heap.size, 0, none⟩ = false := by simp [World.frozen?, x0]
  have kf1 : w0.frozen? ⟨w.heap.size, 1, none⟩ = false := by simp [World.frozen?, x0]
  clear hw0 c0 m0 x0
  go_loopg [4] h (fun kx s4 wr => w0 = wr ∧ ∃ (h' : Nat) (s : T), kx = h' ∧ s4 = .pointer (some ⟨s.a, 0, none⟩) ∧ Hid (FirstAt L h' s) ∧ Hid (Tr h' w ω s))
  case atStart => exact ⟨rfl, h, t, rfl, rfl, I0, HT0⟩
  case round =>
    clear I0 HT0
    obtain ⟨hww, h', s, hkx, rfl, I, HT⟩ := hrel
    have hkx' := hkx.symm
    clear hkx
    subst hkx'
    subst hww
    obtain ⟨v, u, N⟩ := (HT.out.below HOK.out B0).top
    obtain ⟨c0, c1, _, _⟩ := N.cells
    obtain ⟨Ak, ck, rfl, _, _⟩ := N.kany
    have HN := hid_mk N
    go_wp2_with fail
    refine (leaf_any s.a _ ck Ak _ c1).mono ?_
    rintro r w2 ⟨rfl, rfl⟩
    cases h' with
    | zero =>
      have hks : s.ks = [] := I.out.good
      have hd0 : decide ((s.ks.map T.a).length = 0) = true := by rw [hks]; rfl
      rw [hd0]
      rcases hl : s.l with _ | ⟨x, rest⟩
      · have HF : Hid (hd L = (zE, false)) := hid_mk (by rw [first_leaf I.out, hl]; rfl)
        obtain ⟨Al, cl, rfl, _, _⟩ := HN.out.lany
        rw [hl] at c0
        clear hks hd0 N
        go_wp2_with fail
        (try simp only [Exit.inBlock, Exit.then])
        refine bodyPost_ret (v := .tuple #[.agg #[.string zE.key, .int .i64 zE.id], .bool false]) ?_ rfl ?_
        · simp [results, Try.results29, go_sem, zE, *]
        · exact ⟨by rw [HF.out], (B0.setCell (by simp) _).setCell (by simp) _⟩
      · have HF : Hid (hd L = (x, true)) := hid_mk (by rw [first_leaf I.out, hl]; rfl)
        obtain ⟨gl, lcap, rfl, _, _, hglt, hgc⟩ := HN.out.lshape (by rw [hl]; simp)
        obtain ⟨d0, d1⟩ := hgc 0 (by rw [hl]; simp)
        have hgx : ge s.l 0 = x := by rw [hl]; rfl
        rw [hgx] at d0 d1
        have hne : ¬ s.l.length = 0 := by rw [hl]; simp
        have h1 : (0 : Int) < (s.l.length : Int) := by omega
        simp only [Nat.zero_mul, Nat.zero_add] at d0 d1
        clear hks hd0 N hgc hgx hl
        go_wp2_with fail
        (try simp only [Exit.inBlock, Exit.then])
        refine bodyPost_ret (v := .tuple #[.agg #[.string x.key, .int .i64 x.id], .bool true]) ?_ rfl ?_
        · simp [results, Try.results29, go_sem, *]
        · exact ⟨by rw [HF.out], (B0.setCell (by simp) _).setCell (by simp) _⟩
    | succ h' =>
      have hg2 : s.ks.length = s.l.length + 1 := I.out.good.1
      have hn0 : ¬ (s.ks.map T.a).length = 0 := by rw [List.length_map]; omega
      rw [decide_eq_false hn0]
      obtain ⟨c, k2, hks, I2⟩ := first_step I.out
      have Tc : Tr h' w ω c := by
        have h9 := HT.out
        rw [T.eta s, hks] at h9
        exact (h9.kid (k1 := [])).1
      obtain ⟨gk, kcap, hk2, _, _, hgklt, hkc⟩ := HN.out.kshape (by rw [List.length_map]; omega)
      injection hk2 with q1 q2 q3
      subst q1 q3
      have kc := hkc 0 (by omega)
      have hce : (s.ks.map T.a)[0]'(by omega) = c.a := by simp [hks]
      rw [hce] at kc
      have HI2 := hid_mk I2
      have HTc := hid_mk Tc
      obtain ⟨Q, hQ⟩ : ∃ Q, Q = (s.ks.map T.a).length := ⟨_, rfl⟩
      rw [← hQ] at c1 hn0
      have l1 : (0 : Int) < (Q : Int) := by omega
      clear hkc hce hks I2 Tc hg2 hQ N
      go_wp2_with fail
      go_roundg h'
      case measure => omega
      case rel => exact ⟨rfl, h', c, rfl, rfl, HI2, HTc⟩

end Go.Proofs.Ytaoamkkgiiiejaa
