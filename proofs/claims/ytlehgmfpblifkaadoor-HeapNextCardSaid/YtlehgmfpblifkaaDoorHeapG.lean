/- A heap: a record told, one set. -/
import Derived.Test.YtlehgmfpblifkaaDoorHeapD
namespace Go.Proofs.YtlehgmfpblifkaaDoor
open Go.RowKit
set_option linter.unusedVariables false
attribute [local go_sem ↓] Go.wp_at_zero Go.wp_at_succ

set_option maxHeartbeats 2000000 in
set_option maxRecDepth 100000 in
theorem hget_any (B p : Nat) (ds : List Dc) (last id : Int) (F : Nat → Prop) (w : World) (H : Hp B w p ds last F) (hs : Asc ds) (hl : ds.length < 1000000000000) :
    Calls Tryd.prog 18 #[.pointer (some ⟨p, 0, none⟩), .int .i64 id] w fun r w' => r = .returned (.tuple #[(lookD ds id).1.agg, .bool (lookD ds id).2]) ∧ Below w.heap.size w w' := by
  have bw : Below w.heap.size w (w.alloc (.cells #[.int .i64 0, .int .i64 0, .string ⟨#[]⟩, .slice none 0 0, .slice none 0 0] 36)) := balloc _
  have X0 := heap_alloc_new w (.cells #[.int .i64 0, .int .i64 0, .string ⟨#[]⟩, .slice none 0 0, .slice none 0 0] 36)
  have HH := hid_mk (H.below bw)
  go_enter Tryd.func18, Tryd.ntmps18
  go_wp2_with fail
  refine (hfind_any B p ds last id F _ HH.out hs hl).mono ?_
  rintro r w1 ⟨rfl, b1⟩
  have hb1 := bthen bw b1
  have X1 := below_block b1 (by simp) X0
  have k0 := (cell_of_row w1 _ 0 _ _ _ X1).trans rfl
  have k1 := (cell_of_row w1 _ 1 _ _ _ X1).trans rfl
  have k2 := (cell_of_row w1 _ 2 _ _ _ X1).trans rfl
  have k3 := (cell_of_row w1 _ 3 _ _ _ X1).trans rfl
  have k4 := (cell_of_row w1 _ 4 _ _ _ X1).trans rfl
  have f0 : w1.frozen? ⟨w.heap.size, 0, none⟩ = false := by simp [World.frozen?, X1]
  have f1 : w1.frozen? ⟨w.heap.size, 1, none⟩ = false := by simp [World.frozen?, X1]
  have f2 : w1.frozen? ⟨w.heap.size, 2, none⟩ = false := by simp [World.frozen?, X1]
  have f3 : w1.frozen? ⟨w.heap.size, 3, none⟩ = false := by simp [World.frozen?, X1]
  have f4 : w1.frozen? ⟨w.heap.size, 4, none⟩ = false := by simp [World.frozen?, X1]
  cases hh : hasD ds id with
  | false =>
    have HL : Hid (lookD ds id = (zR, false)) := hid_mk (if_neg (by rw [hh]; simp))
    clear H HH X0 X1 hs
    go_wp2_with fail
    (try simp only [Exit.inBlock, Exit.then])
    refine bodyPost_ret (v := .tuple #[zR.agg, .bool false]) ?_ rfl ?_
    · simp [results, Tryd.results18, go_sem, zR, Rv.agg, Sl.v, *]
    · rw [HL.out]
      exact ⟨rfl, set5 (Nat.le_refl _) hb1 0⟩
  | true =>
    obtain ⟨hk, hid⟩ := has_at hs hh
    have HL : Hid (lookD ds id = ((gc ds (posD ds id)).v, true)) := hid_mk (if_pos hh)
    obtain ⟨v, h1, h2, h3, hF⟩ := HH.out.below b1
    obtain ⟨A, cap, rfl, hc, hm, hA⟩ := rw_docs h3
    have c0 := (cell_of_row w1 p 0 _ _ _ h1).trans rfl
    obtain ⟨g, rfl, hg, hcc⟩ := hA (by omega)
    obtain ⟨k, hkk⟩ : ∃ k, k = posD ds id := ⟨_, rfl⟩
    rw [← hkk] at hk HL ⊢
    obtain ⟨x, hx⟩ : ∃ x, x = gc ds k := ⟨_, rfl⟩
    have cc := hcc k hk
    rw [← hx] at cc HL
    obtain ⟨xi, xk, xj, xt, xl, xf⟩ := x
    obtain ⟨d0, d1, d2, d3, d4, d5⟩ := cc
    simp only [Sl.v] at d0 d1 d2 d3 d4 d5
    have m0 : (0 : Int) ≤ (k : Int) := by omega
    have m1 : (k : Int) < (ds.length : Int) := by omega
    have hgn : ¬ g = w.heap.size := fun e9 => by
      rcases h3.2 with ⟨h9, _⟩ | ⟨g', cap', cur, h9, _, hg', _⟩
      · cases h9
      · simp only [Value.slice.injEq, Option.some.injEq, Addr.mk.injEq, and_true, true_and] at h9
        obtain ⟨rfl, rfl⟩ := h9
        rw [e9, X1] at hg'
        injection hg' with hg'
        injection hg' with _ hg'
        cases hg'
    have hng : ¬ w.heap.size = g := fun e9 => hgn e9.symm
    clear H HH X0 X1 hs h1 h3 hcc hA hx hkk hid
    go_wp2_with fail
    (try simp only [Exit.inBlock, Exit.then])
    refine bodyPost_ret (v := .tuple #[(⟨xk, xj, xt, xl, xf⟩ : Rv).agg, .bool true]) ?_ rfl ?_
    · simp [results, Tryd.results18, go_sem, Rv.agg, Sl.v, *]
    · rw [HL.out]
      exact ⟨rfl, set5 (Nat.le_refl _) hb1 0⟩

theorem hcells_set : ∀ (ds : List Dc) (k : Nat) (v : Rv), k < ds.length → hcells (ds.set k ⟨(gc ds k).id, v⟩) = (((((hcells ds).set (k * 6 + 1) (.int .i64 v.k)).set (k * 6 + 2) (.int .i64 v.i)).set (k * 6 + 3) (.string v.t)).set (k * 6 + 4) v.l.v).set (k * 6 + 5) v.f.v
  | [], k, v, h => by simp at h
  | x :: ds, 0, v, h => by simp [hcells_cons, Dc.cs, gc]
  | x :: ds, k + 1, v, h => by
    have ih := hcells_set ds k v (by simpa using h)
    have hg : gc (x :: ds) (k + 1) = gc ds k := by simp [gc]
    have hs : ∀ (l : List Value) (j : Nat) (u : Value), (x.cs ++ l).set ((k + 1) * 6 + j) u = x.cs ++ l.set (k * 6 + j) u := fun l j u => by
      rw [List.set_append_right _ _ (show x.cs.length ≤ (k + 1) * 6 + j by simp [Dc.cs]; omega)]
      congr 2
      simp [Dc.cs]; omega
    rw [List.set_cons_succ, hcells_cons, hcells_cons, hg, ih, hs, hs, hs, hs, hs]

set_option maxHeartbeats 2000000 in
set_option maxRecDepth 100000 in
theorem hset_any (B p : Nat) (ds : List Dc) (last id : Int) (F : Nat → Prop) (v : Rv) (w : World) (H : Hp B w p ds last F) (hs : Asc ds) (hl : ds.length < 1000000000000) :
    Calls Tryd.prog 19 #[.pointer (some ⟨p, 0, none⟩), .int .i64 id, v.agg] w fun r w' => r = .returned (.bool (hasD ds id)) ∧ Hp B w' p (setD ds id v) last F ∧ Mv F F w w' := by
  obtain ⟨vk, vi, vt, ⟨va, vn, vc⟩, ⟨fa, fn, fc⟩⟩ := v
  simp only [Rv.agg, Sl.v]
  have bw : Below w.heap.size w (w.alloc (.cells #[.int .i64 vk, .int .i64 vi, .string vt, .slice va vn vc, .slice fa fn fc] 36)) := balloc _
  have X0 := heap_alloc_new w (.cells #[.int .i64 vk, .int .i64 vi, .string vt, .slice va vn vc, .slice fa fn fc] 36)
  have HH := hid_mk (H.below bw)
  have HV := hid_mk H
  go_enter Tryd.func19, Tryd.ntmps19
  go_wp2_with fail
  refine (hfind_any B p ds last id F _ HH.out hs hl).mono ?_
  rintro r w1 ⟨rfl, b1⟩
  have hb1 := bthen bw b1
  have X1 := below_block b1 (by simp) X0
  have k0 := (cell_of_row w1 _ 0 _ _ _ X1).trans rfl
  have k1 := (cell_of_row w1 _ 1 _ _ _ X1).trans rfl
  have k2 := (cell_of_row w1 _ 2 _ _ _ X1).trans rfl
  have k3 := (cell_of_row w1 _ 3 _ _ _ X1).trans rfl
  have k4 := (cell_of_row w1 _ 4 _ _ _ X1).trans rfl
  cases hh : hasD ds id with
  | false =>
    have HL : Hid (∀ v, setD ds id v = ds) := hid_mk fun v => if_neg (by rw [hh]; simp)
    have HB1 := hid_mk hb1
    have HHF := hid_mk hh
    clear H HH X0 X1 hs hb1 bw b1
    go_wp2_with fail
    go_ret
    exact ⟨ret_bool HHF.out.symm, by rw [HL.out]; exact HV.out.below HB1.out, Mv.of_below HB1.out⟩
  | true =>
    obtain ⟨hk, hid⟩ := has_at hs hh
    have HL : Hid (∀ v, setD ds id v = ds.set (posD ds id) ⟨(gc ds (posD ds id)).id, v⟩) := hid_mk fun v => if_pos hh
    obtain ⟨d, h1, h2, h3, hF⟩ := HH.out.below b1
    obtain ⟨A, cap, rfl, hc, hm, hA⟩ := rw_docs h3
    have c0 := (cell_of_row w1 p 0 _ _ _ h1).trans rfl
    obtain ⟨g, rfl, hg, hcc⟩ := hA (by omega)
    obtain ⟨k, hkk⟩ : ∃ k, k = posD ds id := ⟨_, rfl⟩
    rw [← hkk] at hk HL ⊢
    have cc := hcc k hk
    obtain ⟨x, hx⟩ : ∃ x, x = gc ds k := ⟨_, rfl⟩
    rw [← hx] at cc
    obtain ⟨d0, d1, d2, d3, d4, d5⟩ := cc
    have m0 : (0 : Int) ≤ (k : Int) := by omega
    have m1 : (k : Int) < (ds.length : Int) := by omega
    have hgp : ¬ own (.slice (some ⟨g, 0, none⟩) ds.length cap) p := fun h9 => h3.ne h1 (by decide) h9
    have hgp' : ¬ p = g := fun e => hgp (by rw [e]; rfl)
    have Z1 : ∃ cur, w1.heap[g]? = some (.cells cur 42 (0, 0)) := by
      obtain ⟨_, _, cur, fr, h9⟩ := h3.hasT g rfl
      rcases h3.2 with ⟨h8, _⟩ | ⟨g', cap', cur', h8, _, hg', _⟩
      · cases h8
      · simp only [Value.slice.injEq, Option.some.injEq, Addr.mk.injEq, and_true, true_and] at h8
        obtain ⟨rfl, rfl⟩ := h8
        exact ⟨cur', hg'⟩
    obtain ⟨cur, Z1⟩ := Z1
    have f1 : ∀ j, w1.frozen? ⟨g, j, none⟩ = false := fun j => by simp [World.frozen?, Z1]
    have HMV : Hid (Mv F F w w1) := hid_mk (Mv.of_below hb1)
    have hFg : F g := by rw [hF]; exact .inr rfl
    have H1 := hid_mk (And.intro h1 (And.intro h2 h3))
    have HF := hid_mk (And.intro hF hFg)
    have HK := hid_mk hk
    have HGP := hid_mk hgp
    have HHT := hid_mk hh
    clear H HH X0 X1 hs h1 h3 hcc hA hx hkk hid HV hh hgp hF hFg hb1 bw b1 Z1
    have HR : Hid (Hp B (((((w1.setCell ⟨g, k * 6 + 1, none⟩ (.int .i64 vk)).setCell ⟨g, k * 6 + 1 + 1, none⟩ (.int .i64 vi)).setCell ⟨g, k * 6 + 1 + 2, none⟩ (.string vt)).setCell ⟨g, k * 6 + 1 + 3, none⟩ (.slice va vn vc)).setCell ⟨g, k * 6 + 1 + 4, none⟩ (.slice fa fn fc)).drew p (ds.set k ⟨(gc ds k).id, ⟨vk, vi, vt, ⟨va, vn, vc⟩, ⟨fa, fn, fc⟩⟩⟩) last F ∧
        Mv F F w (((((w1.setCell ⟨g, k * 6 + 1, none⟩ (.int .i64 vk)).setCell ⟨g, k * 6 + 1 + 1, none⟩ (.int .i64 vi)).setCell ⟨g, k * 6 + 1 + 2, none⟩ (.string vt)).setCell ⟨g, k * 6 + 1 + 3, none⟩ (.slice va vn vc)).setCell ⟨g, k * 6 + 1 + 4, none⟩ (.slice fa fn fc)).drew) := hid_mk (by
      have hb : k * 6 + 5 < ds.length * 6 := by have := HK.out; omega
      have R := ((((H1.out.2.2.setCell_ (k * 6 + 1) (.int .i64 vk) (by omega)).setCell_ (k * 6 + 1 + 1) (.int .i64 vi) (by omega)).setCell_ (k * 6 + 1 + 2) (.string vt) (by omega)).setCell_ (k * 6 + 1 + 3) (.slice va vn vc) (by omega)).setCell_ (k * 6 + 1 + 4) (.slice fa fn fc) (by omega)
      refine ⟨⟨.slice (some ⟨g, 0, none⟩) ds.length cap, ?_, h2, ?_, HF.out.1⟩, ?_⟩
      · have hne : p ≠ g := hgp'
        refine (heap_setCell_other _ _ p _ hne).trans ((heap_setCell_other _ _ p _ hne).trans ((heap_setCell_other _ _ p _ hne).trans ((heap_setCell_other _ _ p _ hne).trans ((heap_setCell_other _ _ p _ hne).trans H1.out.1))))
      · rw [hcells_set ds k _ HK.out, List.length_set]
        exact R
      · have m := fun (z : World) (o : Nat) (u : Value) => Mv.setCell (F := F) (w := z) (a := ⟨g, o, none⟩) u HF.out.2
        exact (HMV.out.trans ((m _ _ _).trans ((m _ _ _).trans ((m _ _ _).trans ((m _ _ _).trans (m _ _ _)))))).drew)
    go_wp2_with fail
    go_region
    go_wp2_with fail
    go_ret
    exact ⟨ret_bool HHT.out.symm, by rw [HL.out]; exact HR.out.1, HR.out.2⟩

end Go.Proofs.YtlehgmfpblifkaaDoor
