/- A heap: a record told, the next one told, one set. -/
import Derived.Test.YtlehgmfpblifkaaDoorHeapC
import Derived.BigRegion
namespace Go.Proofs.YtlehgmfpblifkaaDoor
open Go.RowKit
set_option linter.unusedVariables false
attribute [local go_sem ↓] Go.wp_at_zero Go.wp_at_succ

def lookD (ds : List Dc) (id : Int) : Rv × Bool := if hasD ds id = true then ((gc ds (posD ds id)).v, true) else (zR, false)
def nextD (ds : List Dc) (id : Int) : Dc × Bool :=
  if posD ds id + (if hasD ds id = true then 1 else 0) < ds.length then (gc ds (posD ds id + (if hasD ds id = true then 1 else 0)), true) else (zDc, false)
def setD (ds : List Dc) (id : Int) (v : Rv) : List Dc := if hasD ds id = true then ds.set (posD ds id) ⟨(gc ds (posD ds id)).id, v⟩ else ds
theorem has_at {ds : List Dc} (hs : Asc ds) {id : Int} (h : hasD ds id = true) : posD ds id < ds.length ∧ (gc ds (posD ds id)).id = id := by
  obtain ⟨h1, h2⟩ := asc_pos hs id
  have h3 := (pos_at hs id (posD ds id) (pos_le _ _) h1 h2).2
  rw [h3] at h
  exact of_decide_eq_true h
theorem set5 {w : World} {B b : Nat} (hb : B ≤ b) {v0 v1 v2 v3 v4 : Value} {w1 : World} (h : Below B w w1) (o : Nat) : Below B w (((((w1.setCell ⟨b, o, none⟩ v0).setCell ⟨b, o + 1, none⟩ v1).setCell ⟨b, o + 2, none⟩ v2).setCell ⟨b, o + 3, none⟩ v3).setCell ⟨b, o + 4, none⟩ v4) :=
  ((((h.setCell (p := ⟨b, o, none⟩) hb v0).setCell (p := ⟨b, o + 1, none⟩) hb v1).setCell (p := ⟨b, o + 2, none⟩) hb v2).setCell (p := ⟨b, o + 3, none⟩) hb v3).setCell (p := ⟨b, o + 4, none⟩) hb v4

theorem set6 {w : World} {B b : Nat} (hb : B ≤ b) {v0 v1 v2 v3 v4 v5 : Value} {w1 : World} (h : Below B w w1) : Below B w ((((((w1.setCell ⟨b, 0, none⟩ v0).setCell ⟨b, 1, none⟩ v1).setCell ⟨b, 2, none⟩ v2).setCell ⟨b, 3, none⟩ v3).setCell ⟨b, 4, none⟩ v4).setCell ⟨b, 5, none⟩ v5) :=
  (set5 hb h 0).setCell (p := ⟨b, 5, none⟩) hb v5
theorem rw_block {B : Nat} {w : World} {T T' : TypeId} {size n cap g b : Nat} {xs : List Value} {cs : Array Value} {fr : Nat × Nat} (h : Rw B w T size (.slice (some ⟨g, 0, none⟩) n cap) n xs) (hb : w.heap[b]? = some (.cells cs T' fr)) (hT : T ≠ T') : ¬ g = b :=
  fun e => h.ne hb hT (by rw [e]; rfl)

set_option maxHeartbeats 2000000 in
set_option maxRecDepth 100000 in
theorem hnext_any (B p : Nat) (ds : List Dc) (last id : Int) (F : Nat → Prop) (w : World) (H : Hp B w p ds last F) (hs : Asc ds) (hl : ds.length < 1000000000000) :
    Calls Tryd.prog 14 #[.pointer (some ⟨p, 0, none⟩), .int .i64 id] w fun r w' => r = .returned (.tuple #[(nextD ds id).1.agg, .bool (nextD ds id).2]) ∧ Below w.heap.size w w' := by
  have bw : Below w.heap.size w (w.alloc (.cells #[.int .i64 0, .int .i64 0, .int .i64 0, .string ⟨#[]⟩, .slice none 0 0, .slice none 0 0] 42)) := balloc _
  have X0 := heap_alloc_new w (.cells #[.int .i64 0, .int .i64 0, .int .i64 0, .string ⟨#[]⟩, .slice none 0 0, .slice none 0 0] 42)
  have HH := hid_mk (H.below bw)
  have hpk := pos_le ds id
  obtain ⟨v0, hv0, _, hr0, _⟩ := H
  have hgo : ∀ g n c, v0 = .slice (some ⟨g, 0, none⟩) n c → g < w.heap.size := fun g n c e => (hr0.lt g (by rw [e]; rfl)).2
  have HV0 := hid_mk (below_block bw (lt_of_block hv0) hv0)
  have HG := hid_mk hgo
  clear hr0 hv0 hgo
  go_enter Tryd.func14, Tryd.ntmps14
  go_wp2_with fail
  refine (hfind_any B p ds last id F _ HH.out hs hl).mono ?_
  rintro r w1 ⟨rfl, b1⟩
  have hb1 := bthen bw b1
  have X1 := below_block b1 (by simp) X0
  have V1 := below_block b1 (lt_of_block HV0.out) HV0.out
  have k0 := (cell_of_row w1 _ 0 _ _ _ X1).trans rfl
  have k1 := (cell_of_row w1 _ 1 _ _ _ X1).trans rfl
  have k2 := (cell_of_row w1 _ 2 _ _ _ X1).trans rfl
  have k3 := (cell_of_row w1 _ 3 _ _ _ X1).trans rfl
  have k4 := (cell_of_row w1 _ 4 _ _ _ X1).trans rfl
  have k5 := (cell_of_row w1 _ 5 _ _ _ X1).trans rfl
  have f0 : w1.frozen? ⟨w.heap.size, 0, none⟩ = false := by simp [World.frozen?, X1]
  have f1 : w1.frozen? ⟨w.heap.size, 1, none⟩ = false := by simp [World.frozen?, X1]
  have f2 : w1.frozen? ⟨w.heap.size, 2, none⟩ = false := by simp [World.frozen?, X1]
  have f3 : w1.frozen? ⟨w.heap.size, 3, none⟩ = false := by simp [World.frozen?, X1]
  have f4 : w1.frozen? ⟨w.heap.size, 4, none⟩ = false := by simp [World.frozen?, X1]
  have f5 : w1.frozen? ⟨w.heap.size, 5, none⟩ = false := by simp [World.frozen?, X1]
  obtain ⟨v, h1, h2, h3, hF⟩ := HH.out.below b1
  obtain ⟨A, cap, rfl, hc, hm, hA⟩ := rw_docs h3
  have hv : v0 = .slice A ds.length cap := by
    rw [V1] at h1
    injection h1 with h1
    injection h1 with h1
    injection h1 with h1
    injection h1
  have c0 := (cell_of_row w1 p 0 _ _ _ h1).trans rfl
  obtain ⟨k, hkk⟩ : ∃ k, k = posD ds id + (if hasD ds id = true then 1 else 0) := ⟨_, rfl⟩
  have HK := hid_mk hkk
  obtain ⟨k', hk'⟩ : ∃ k', k' = posD ds id := ⟨_, rfl⟩
  rw [← hk'] at hkk hpk ⊢
  have hk1 : IntKind.i64.wrap ((k' : Int) + 1) = (k' : Int) + 1 := by rw [IntKind.wrap_i64]; omega
  have HK' := hid_mk hk'
  clear hk' X0 X1 V1 HV0 HH
  by_cases hlt : k < ds.length
  · obtain ⟨g, rfl, hg, hcc⟩ := hA (by omega)
    have hgn : ¬ g = w.heap.size := fun e9 => by have := HG.out g _ _ hv; omega
    have hng : ¬ w.heap.size = g := fun e9 => hgn e9.symm
    have HL : Hid (nextD ds id = (gc ds k, true)) := hid_mk (by unfold nextD; rw [← HK.out, if_pos hlt])
    obtain ⟨x, hx⟩ : ∃ x, x = gc ds k := ⟨_, rfl⟩
    have cc := hcc k hlt
    rw [← hx] at cc HL
    obtain ⟨xi, xk, xj, xt, xl, xf⟩ := x
    obtain ⟨d0, d1, d2, d3, d4, d5⟩ := cc
    simp only [Sl.v] at d0 d1 d2 d3 d4 d5
    clear hs h1 h3 hcc hA hx hv
    cases hh : hasD ds id with
    | false =>
      have e1 : k' = k := by rw [hkk, hh]; simp
      subst e1
      have m0 : (0 : Int) ≤ (k' : Int) := by omega
      have m1 : (k' : Int) < (ds.length : Int) := by omega
      clear hkk hh
      go_wp2_with fail
      (try simp only [Exit.inBlock, Exit.then])
      refine bodyPost_ret (v := .tuple #[(⟨xi, xk, xj, xt, xl, xf⟩ : Dc).agg, .bool true]) ?_ rfl ?_
      · simp [results, Tryd.results14, go_sem, Dc.agg, Sl.v, *]
      · rw [HL.out]
        exact ⟨rfl, set6 (Nat.le_refl _) hb1⟩
    | true =>
      have e1 : k = k' + 1 := by rw [hkk, hh]; simp
      subst e1
      have m0 : (0 : Int) ≤ (k' : Int) + 1 := by omega
      have m1 : (k' : Int) + 1 < (ds.length : Int) := by omega
      have m2 : ((k' : Int) + 1).toNat = k' + 1 := by omega
      clear hkk hh
      go_wp2_with fail
      (try simp only [Exit.inBlock, Exit.then])
      refine bodyPost_ret (v := .tuple #[(⟨xi, xk, xj, xt, xl, xf⟩ : Dc).agg, .bool true]) ?_ rfl ?_
      · simp [results, Tryd.results14, go_sem, Dc.agg, Sl.v, *]
      · rw [HL.out]
        exact ⟨rfl, set6 (Nat.le_refl _) hb1⟩
  · have HL : Hid (nextD ds id = (zDc, false)) := hid_mk (by unfold nextD; rw [← HK.out, if_neg hlt])
    clear hs h1 h3 hA hv
    cases hh : hasD ds id with
    | false =>
      have e1 : k' = k := by rw [hkk, hh]; simp
      subst e1
      have m1 : (ds.length : Int) ≤ (k' : Int) := by omega
      clear hkk hh
      go_wp2_with fail
      (try simp only [Exit.inBlock, Exit.then])
      refine bodyPost_ret (v := .tuple #[zDc.agg, .bool false]) ?_ rfl ?_
      · simp [results, Tryd.results14, go_sem, zDc, zR, Dc.agg, Sl.v, *]
      · rw [HL.out]
        exact ⟨rfl, set6 (Nat.le_refl _) hb1⟩
    | true =>
      have e1 : k = k' + 1 := by rw [hkk, hh]; simp
      subst e1
      have m1 : (ds.length : Int) ≤ (k' : Int) + 1 := by omega
      clear hkk hh
      go_wp2_with fail
      (try simp only [Exit.inBlock, Exit.then])
      refine bodyPost_ret (v := .tuple #[zDc.agg, .bool false]) ?_ rfl ?_
      · simp [results, Tryd.results14, go_sem, zDc, zR, Dc.agg, Sl.v, *]
      · rw [HL.out]
        exact ⟨rfl, set6 (Nat.le_refl _) hb1⟩

end Go.Proofs.YtlehgmfpblifkaaDoor
