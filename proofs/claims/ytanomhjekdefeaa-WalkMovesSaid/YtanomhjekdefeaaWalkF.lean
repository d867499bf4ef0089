/- The law's Next, walked. Printed by genlnext.py. -/
import Derived.Test.YtanomhjekdefeaaWalkE
namespace Go.Proofs.Ytanomhjekdefeaa
open Go.RowKit
set_option linter.unusedVariables false
attribute [local go_sem ↓] Go.wp_at_zero Go.wp_at_succ

theorem row_length (L : List E) (r : Rg) : (rowE L r).length = L.length := by unfold rowE; split <;> simp
theorem row_ge {L : List E} {r : Rg} {k : Nat} (hk : k < L.length) : ge (rowE L r) k = if r.dn = true then ge L (L.length - 1 - k) else ge L k := by
  rw [ge_get _ _ (by rw [row_length]; exact hk)]
  unfold rowE
  split
  · rw [List.getElem_reverse, ge_get _ _ (by omega)]
  · rw [ge_get _ _ hk]
theorem find_hit {p : E → Bool} {l : List E} {k : Nat} (hk : k < l.length) (h : ∀ i, i < k → p (ge l i) = false) (hp : p (ge l k) = true) : l.find? p = some (ge l k) := by
  have h1 : l = l.take k ++ ge l k :: l.drop (k + 1) := by rw [ge_get l k hk, ← List.drop_eq_getElem_cons hk, List.take_append_drop]
  have h2 : (l.take k).find? p = none := by
    rw [List.find?_eq_none]
    intro x hx hpx
    obtain ⟨i, hi, rfl⟩ := List.getElem_of_mem hx
    rw [List.length_take] at hi
    have h3 := h i (by omega)
    rw [ge_get l i (by omega)] at h3
    rw [List.getElem_take, h3] at hpx
    cases hpx
  have h4 : ∀ M, M = l.take k ++ ge l k :: l.drop (k + 1) → M.find? p = some (ge l k) := fun M hM => by
    rw [hM, List.find?_append, h2, List.find?_cons, hp]
    rfl
  exact h4 l h1
theorem find_miss {p : E → Bool} {l : List E} (h : ∀ i, i < l.length → p (ge l i) = false) : l.find? p = none := by
  rw [List.find?_eq_none]
  intro x hx hpx
  obtain ⟨i, hi, rfl⟩ := List.getElem_of_mem hx
  have h3 := h i hi
  rw [ge_get l i hi] at h3
  rw [h3] at hpx
  cases hpx

theorem more_no {p : E → Bool} {l : List E} {k : Nat} (h : ∀ i, i < k → p (ge l i) = false) (hk : p (ge l k) = false) : ∀ i, i < k + 1 → p (ge l i) = false := fun i hi => by
  rcases Nat.lt_succ_iff_lt_or_eq.1 hi with h1 | rfl
  · exact h i h1
  · exact hk

set_option maxHeartbeats 4000000 in
set_option maxRecDepth 100000 in
theorem lnext_ff (B : Nat) (L : List E) (v : Value) (rf rt : ByteArray) (me : E) (w : World) (hv : Rw B w 34 2 v L.length (ecells L)) (hL : L.length < 3000) :
    Calls Try.prog 18 #[v, .agg #[.string rf, .string rt, .bool false], .agg #[.string me.key, .int .i64 me.id, .bool false]] w fun e w' => e = .returned (.tuple #[.agg #[.string (lawN L ⟨rf, rt, false⟩ ⟨me, false⟩).1.key, .int .i64 (lawN L ⟨rf, rt, false⟩ ⟨me, false⟩).1.id], .bool (lawN L ⟨rf, rt, false⟩ ⟨me, false⟩).2]) ∧ Below w.heap.size w w' := by
  obtain ⟨A, cap, rfl, hc, hm, hA⟩ := rw_ents hv
  have HA := hid_mk hA
  obtain ⟨P, hp⟩ : ∃ P : E → Bool, P = fun e => pastE ⟨rf, rt, false⟩ ⟨me, false⟩ e && inR e ⟨rf, rt, false⟩ := ⟨_, rfl⟩
  have HP := hid_mk hp
  have HN : Hid (lawN L ⟨rf, rt, false⟩ ⟨me, false⟩ = fz ((rowE L ⟨rf, rt, false⟩).find? P)) := hid_mk (by rw [hp]; rfl)
  clear hv hA hp
  go_enter Try.func18, Try.ntmps18
  go_wp2_with fail
  obtain ⟨w0, hw0⟩ : ∃ w0, w0 = ((w.alloc (.cells #[.string rf, .string rt, .bool false] 29)).alloc (.cells #[.string me.key, .int .i64 me.id, .bool false] 36)).alloc (.cells #[.string ⟨#[]⟩, .int .i64 0] 34) := ⟨_, rfl⟩
  rw [← hw0]
  have B0 : Below w.heap.size w w0 := by rw [hw0]; exact bthen (bthen (balloc _) (balloc _)) (balloc _)
  have X0 : Hid (w0.heap[w.heap.size]? = some (.cells #[.string rf, .string rt, .bool false] 29 (0, 0)) ∧ w0.heap[w.heap.size + 1]? = some (.cells #[.string me.key, .int .i64 me.id, .bool false] 36 (0, 0)) ∧ w0.heap[w.heap.size + 1 + 1]? = some (.cells #[.string ⟨#[]⟩, .int .i64 0] 34 (0, 0))) := by
    have q1 : (w.alloc (.cells #[.string rf, .string rt, .bool false] 29)).heap.size = w.heap.size + 1 := by simp
    have q2 : ((w.alloc (.cells #[.string rf, .string rt, .bool false] 29)).alloc (.cells #[.string me.key, .int .i64 me.id, .bool false] 36)).heap.size = w.heap.size + 2 := by simp
    refine hid_mk ⟨?_, ?_, ?_⟩
    · rw [hw0, heap_alloc_old _ _ (by omega), heap_alloc_old _ _ (by omega)]; exact heap_alloc_new w _
    · rw [hw0, heap_alloc_old _ _ (by omega)]
      have h9 := heap_alloc_new (w.alloc (.cells #[.string rf, .string rt, .bool false] 29)) (.cells #[.string me.key, .int .i64 me.id, .bool false] 36)
      rw [q1] at h9; exact h9
    · rw [hw0]
      have h9 := heap_alloc_new ((w.alloc (.cells #[.string rf, .string rt, .bool false] 29)).alloc (.cells #[.string me.key, .int .i64 me.id, .bool false] 36)) (.cells #[.string ⟨#[]⟩, .int .i64 0] 34)
      rw [q2] at h9; exact h9
  clear hw0
  go_loopw [13] (fun iv wr => ∃ k : Nat, iv = .int .i64 k ∧ k ≤ L.length ∧ Hid (∀ i, i < k → P (ge (rowE L ⟨rf, rt, false⟩) i) = false) ∧ Below w.heap.size w wr ∧ Hid (wr.heap[w.heap.size]? = some (.cells #[.string rf, .string rt, .bool false] 29 (0, 0)) ∧ wr.heap[w.heap.size + 1]? = some (.cells #[.string me.key, .int .i64 me.id, .bool false] 36 (0, 0)) ∧ wr.heap[w.heap.size + 1 + 1]? = some (.cells #[.string ⟨#[]⟩, .int .i64 0] 34 (0, 0)))) (fun iv _ => L.length - (intOf iv).toNat)
  case atStart => exact ⟨0, rfl, Nat.zero_le _, hid_mk fun i h => absurd h (by omega), B0, X0⟩
  case round =>
    clear B0 X0
    obtain ⟨k, rfl, hk, HK, hb, X⟩ := hrel
    have hz := lt_of_block X.out.2.2
    have r0 : wr.cell? ⟨w.heap.size, 0, none⟩ = some (.string rf) := (cell_of_row wr _ 0 _ _ _ X.out.1).trans rfl
    have r1 : wr.cell? ⟨w.heap.size, 1, none⟩ = some (.string rt) := (cell_of_row wr _ 1 _ _ _ X.out.1).trans rfl
    have r2 : wr.cell? ⟨w.heap.size, 2, none⟩ = some (.bool false) := (cell_of_row wr _ 2 _ _ _ X.out.1).trans rfl
    have s0 : wr.cell? ⟨w.heap.size + 1, 0, none⟩ = some (.string me.key) := (cell_of_row wr _ 0 _ _ _ X.out.2.1).trans rfl
    have s1 : wr.cell? ⟨w.heap.size + 1, 1, none⟩ = some (.int .i64 me.id) := (cell_of_row wr _ 1 _ _ _ X.out.2.1).trans rfl
    have s2 : wr.cell? ⟨w.heap.size + 1, 2, none⟩ = some (.bool false) := (cell_of_row wr _ 2 _ _ _ X.out.2.1).trans rfl
    have j0 : wr.cell? ⟨w.heap.size + 1 + 1, 0, none⟩ = some (.string ⟨#[]⟩) := (cell_of_row wr _ 0 _ _ _ X.out.2.2).trans rfl
    have j1 : wr.cell? ⟨w.heap.size + 1 + 1, 1, none⟩ = some (.int .i64 0) := (cell_of_row wr _ 1 _ _ _ X.out.2.2).trans rfl
    have e0 : ¬ wr.heap.size = w.heap.size := by omega
    have e1 : ¬ wr.heap.size = w.heap.size + 1 := by omega
    have e2 : ¬ wr.heap.size = w.heap.size + 1 + 1 := by omega
    have e3 : ¬ w.heap.size = wr.heap.size := by omega
    have e4 : ¬ w.heap.size + 1 = wr.heap.size := by omega
    have e5 : ¬ w.heap.size + 1 + 1 = wr.heap.size := by omega
    have jf0 : wr.frozen? ⟨w.heap.size + 1 + 1, 0, none⟩ = false := by simp [World.frozen?, X.out.2.2]
    have jf1 : wr.frozen? ⟨w.heap.size + 1 + 1, 1, none⟩ = false := by simp [World.frozen?, X.out.2.2]
    by_cases hlt : k < L.length
    · obtain ⟨g, rfl, hg, hx⟩ := HA.out (by omega)
      have k0 : (0 : Int) ≤ (k : Int) := by omega
      have k1 : (k : Int) < (L.length : Int) := by omega
      have d0 := keep_cell hb (hx k (by omega)).1
      have d1 := keep_cell hb (hx k (by omega)).2
      obtain ⟨x, hxx⟩ : ∃ x, x = ge L k := ⟨_, rfl⟩
      have HX : Hid (ge (rowE L ⟨rf, rt, false⟩) k = x) := hid_mk (by rw [row_ge hlt, hxx]; rfl)
      rw [← hxx] at d0 d1
      have HPX : Hid (P x = (pastE ⟨rf, rt, false⟩ ⟨me, false⟩ x && inR x ⟨rf, rt, false⟩)) := hid_mk (by rw [HP.out])
      have eg : ¬ wr.heap.size = g := by have := hb.size; omega
      obtain ⟨N, hN⟩ : ∃ N, N = wr.heap.size := ⟨_, rfl⟩
      have HNN := hid_mk hN
      have Y : Hid ((wr.alloc (.cells #[.string x.key, .int .i64 x.id] 34)).heap[wr.heap.size]? = some (.cells #[.string x.key, .int .i64 x.id] 34 (0, 0))) := hid_mk (heap_alloc_new _ _)
      have ba : Below wr.heap.size wr (wr.alloc (.cells #[.string x.key, .int .i64 x.id] 34)) := balloc _
      have r0' : (wr.alloc (.cells #[.string x.key, .int .i64 x.id] 34)).cell? ⟨w.heap.size, 0, none⟩ = some (.string rf) := keep_cell ba r0
      have r1' : (wr.alloc (.cells #[.string x.key, .int .i64 x.id] 34)).cell? ⟨w.heap.size, 1, none⟩ = some (.string rt) := keep_cell ba r1
      have r2' : (wr.alloc (.cells #[.string x.key, .int .i64 x.id] 34)).cell? ⟨w.heap.size, 2, none⟩ = some (.bool false) := keep_cell ba r2
      have s0' : (wr.alloc (.cells #[.string x.key, .int .i64 x.id] 34)).cell? ⟨w.heap.size + 1, 0, none⟩ = some (.string me.key) := keep_cell ba s0
      have s1' : (wr.alloc (.cells #[.string x.key, .int .i64 x.id] 34)).cell? ⟨w.heap.size + 1, 1, none⟩ = some (.int .i64 me.id) := keep_cell ba s1
      have s2' : (wr.alloc (.cells #[.string x.key, .int .i64 x.id] 34)).cell? ⟨w.heap.size + 1, 2, none⟩ = some (.bool false) := keep_cell ba s2
      clear hx hxx hlt hN
      go_wp2_with fail
      refine (lin_any x ⟨rf, rt, false⟩ _).mono ?_
      rintro e w4 ⟨rfl, b4⟩
      obtain ⟨z, hz9⟩ : ∃ z, z = inR x ⟨rf, rt, false⟩ := ⟨_, rfl⟩
      rw [← hz9]
      have HPZ : Hid (P x = z) := hid_mk (by rw [HPX.out, hz9]; rfl)
      have b5 := bthen ba b4
      have hb5 := hb.trans (b5.mono hb.size)
      have hx0 := below_block b5 (lt_of_block X.out.1) X.out.1
      have hx1 := below_block b5 (lt_of_block X.out.2.1) X.out.2.1
      have hx2 := below_block b5 (lt_of_block X.out.2.2) X.out.2.2
      have X5 := hid_mk (And.intro hx0 (And.intro hx1 hx2))
      have hy := below_block b4 (lt_of_block Y.out) Y.out
      have j0 : w4.cell? ⟨w.heap.size + 1 + 1, 0, none⟩ = some (.string ⟨#[]⟩) := (cell_of_row w4 _ 0 _ _ _ hx2).trans rfl
      have j1 : w4.cell? ⟨w.heap.size + 1 + 1, 1, none⟩ = some (.int .i64 0) := (cell_of_row w4 _ 1 _ _ _ hx2).trans rfl
      have jf0 : w4.frozen? ⟨w.heap.size + 1 + 1, 0, none⟩ = false := by simp [World.frozen?, hx2]
      have jf1 : w4.frozen? ⟨w.heap.size + 1 + 1, 1, none⟩ = false := by simp [World.frozen?, hx2]
      have y0 : w4.cell? ⟨wr.heap.size, 0, none⟩ = some (.string x.key) := (cell_of_row w4 _ 0 _ _ _ hy).trans rfl
      have y1 : w4.cell? ⟨wr.heap.size, 1, none⟩ = some (.int .i64 x.id) := (cell_of_row w4 _ 1 _ _ _ hy).trans rfl
      clear hz9 hx0 hx1 hx2 hy b4 b5 ba hb X
      cases z with
      | false =>
        have HK2 : Hid (∀ i, i < k + 1 → P (ge (rowE L ⟨rf, rt, false⟩) i) = false) := hid_mk (more_no HK.out (by rw [HX.out]; exact HPZ.out))
        go_wp2_with fail
        exact ⟨⟨k + 1, by go_num, by omega, HK2, hb5, X5⟩, by simp [intOf]; omega⟩
      | true =>
        have HF : Hid (lawN L ⟨rf, rt, false⟩ ⟨me, false⟩ = (x, true)) := hid_mk (by rw [HN.out, find_hit (k := k) (by rw [row_length]; omega) HK.out (by rw [HX.out]; exact HPZ.out), HX.out]; rfl)
        have hbE : Below w.heap.size w ((w4.setCell ⟨w.heap.size + 1 + 1, 0, none⟩ (.string x.key)).setCell ⟨w.heap.size + 1 + 1, 1, none⟩ (.int .i64 x.id)) := (hb5.setCell (by simp; omega) _).setCell (by simp; omega) _
        go_wp2_with fail
        (try simp only [Exit.inBlock, Exit.then])
        refine bodyPost_ret (v := .tuple #[.agg #[.string x.key, .int .i64 x.id], .bool true]) ?_ rfl ?_
        · simp [results, Try.results18, go_sem, *]
        · exact ⟨by rw [HF.out], hbE⟩
    · have hk9 : k = L.length := by omega
      have HF : Hid (lawN L ⟨rf, rt, false⟩ ⟨me, false⟩ = (zE, false)) := hid_mk (by rw [HN.out, find_miss fun i hi => HK.out i (by rw [row_length] at hi; omega)]; rfl)
      have hbE : Below w.heap.size w ((wr.setCell ⟨w.heap.size + 1 + 1, 0, none⟩ (.string ⟨#[]⟩)).setCell ⟨w.heap.size + 1 + 1, 1, none⟩ (.int .i64 0)) := (hb.setCell (by simp; omega) _).setCell (by simp; omega) _
      go_wp2_with fail
      (try simp only [Exit.inBlock, Exit.then])
      refine bodyPost_ret (v := .tuple #[.agg #[.string zE.key, .int .i64 zE.id], .bool false]) ?_ rfl ?_
      · simp [results, Try.results18, go_sem, zE, *]
      · exact ⟨by rw [HF.out], hbE⟩

set_option maxHeartbeats 4000000 in
set_option maxRecDepth 100000 in
theorem lnext_ft (B : Nat) (L : List E) (v : Value) (rf rt : ByteArray) (me : E) (w : World) (hv : Rw B w 34 2 v L.length (ecells L)) (hL : L.length < 3000) :
    Calls Try.prog 18 #[v, .agg #[.string rf, .string rt, .bool false], .agg #[.string me.key, .int .i64 me.id, .bool true]] w fun e w' => e = .returned (.tuple #[.agg #[.string (lawN L ⟨rf, rt, false⟩ ⟨me, true⟩).1.key, .int .i64 (lawN L ⟨rf, rt, false⟩ ⟨me, true⟩).1.id], .bool (lawN L ⟨rf, rt, false⟩ ⟨me, true⟩).2]) ∧ Below w.heap.size w w' := by
  obtain ⟨A, cap, rfl, hc, hm, hA⟩ := rw_ents hv
  have HA := hid_mk hA
  obtain ⟨P, hp⟩ : ∃ P : E → Bool, P = fun e => pastE ⟨rf, rt, false⟩ ⟨me, true⟩ e && inR e ⟨rf, rt, false⟩ := ⟨_, rfl⟩
  have HP := hid_mk hp
  have HN : Hid (lawN L ⟨rf, rt, false⟩ ⟨me, true⟩ = fz ((rowE L ⟨rf, rt, false⟩).find? P)) := hid_mk (by rw [hp]; rfl)
  clear hv hA hp
  go_enter Try.func18, Try.ntmps18
  go_wp2_with fail
  obtain ⟨w0, hw0⟩ : ∃ w0, w0 = ((w.alloc (.cells #[.string rf, .string rt, .bool false] 29)).alloc (.cells #[.string me.key, .int .i64 me.id, .bool true] 36)).alloc (.cells #[.string ⟨#[]⟩, .int .i64 0] 34) := ⟨_, rfl⟩
  rw [← hw0]
  have B0 : Below w.heap.size w w0 := by rw [hw0]; exact bthen (bthen (balloc _) (balloc _)) (balloc _)
  have X0 : Hid (w0.heap[w.heap.size]? = some (.cells #[.string rf, .string rt, .bool false] 29 (0, 0)) ∧ w0.heap[w.heap.size + 1]? = some (.cells #[.string me.key, .int .i64 me.id, .bool true] 36 (0, 0)) ∧ w0.heap[w.heap.size + 1 + 1]? = some (.cells #[.string ⟨#[]⟩, .int .i64 0] 34 (0, 0))) := by
    have q1 : (w.alloc (.cells #[.string rf, .string rt, .bool false] 29)).heap.size = w.heap.size + 1 := by simp
    have q2 : ((w.alloc (.cells #[.string rf, .string rt, .bool false] 29)).alloc (.cells #[.string me.key, .int .i64 me.id, .bool true] 36)).heap.size = w.heap.size + 2 := by simp
    refine hid_mk ⟨?_, ?_, ?_⟩
    · rw [hw0, heap_alloc_old _ _ (by omega), heap_alloc_old _ _ (by omega)]; exact heap_alloc_new w _
    · rw [hw0, heap_alloc_old _ _ (by omega)]
      have h9 := heap_alloc_new (w.alloc (.cells #[.string rf, .string rt, .bool false] 29)) (.cells #[.string me.key, .int .i64 me.id, .bool true] 36)
      rw [q1] at h9; exact h9
    · rw [hw0]
      have h9 := heap_alloc_new ((w.alloc (.cells #[.string rf, .string rt, .bool false] 29)).alloc (.cells #[.string me.key, .int .i64 me.id, .bool true] 36)) (.cells #[.string ⟨#[]⟩, .int .i64 0] 34)
      rw [q2] at h9; exact h9
  clear hw0
  go_loopw [13] (fun iv wr => ∃ k : Nat, iv = .int .i64 k ∧ k ≤ L.length ∧ Hid (∀ i, i < k → P (ge (rowE L ⟨rf, rt, false⟩) i) = false) ∧ Below w.heap.size w wr ∧ Hid (wr.heap[w.heap.size]? = some (.cells #[.string rf, .string rt, .bool false] 29 (0, 0)) ∧ wr.heap[w.heap.size + 1]? = some (.cells #[.string me.key, .int .i64 me.id, .bool true] 36 (0, 0)) ∧ wr.heap[w.heap.size + 1 + 1]? = some (.cells #[.string ⟨#[]⟩, .int .i64 0] 34 (0, 0)))) (fun iv _ => L.length - (intOf iv).toNat)
  case atStart => exact ⟨0, rfl, Nat.zero_le _, hid_mk fun i h => absurd h (by omega), B0, X0⟩
  case round =>
    clear B0 X0
    obtain ⟨k, rfl, hk, HK, hb, X⟩ := hrel
    have hz := lt_of_block X.out.2.2
    have r0 : wr.cell? ⟨w.heap.size, 0, none⟩ = some (.string rf) := (cell_of_row wr _ 0 _ _ _ X.out.1).trans rfl
    have r1 : wr.cell? ⟨w.heap.size, 1, none⟩ = some (.string rt) := (cell_of_row wr _ 1 _ _ _ X.out.1).trans rfl
    have r2 : wr.cell? ⟨w.heap.size, 2, none⟩ = some (.bool false) := (cell_of_row wr _ 2 _ _ _ X.out.1).trans rfl
    have s0 : wr.cell? ⟨w.heap.size + 1, 0, none⟩ = some (.string me.key) := (cell_of_row wr _ 0 _ _ _ X.out.2.1).trans rfl
    have s1 : wr.cell? ⟨w.heap.size + 1, 1, none⟩ = some (.int .i64 me.id) := (cell_of_row wr _ 1 _ _ _ X.out.2.1).trans rfl
    have s2 : wr.cell? ⟨w.heap.size + 1, 2, none⟩ = some (.bool true) := (cell_of_row wr _ 2 _ _ _ X.out.2.1).trans rfl
    have j0 : wr.cell? ⟨w.heap.size + 1 + 1, 0, none⟩ = some (.string ⟨#[]⟩) := (cell_of_row wr _ 0 _ _ _ X.out.2.2).trans rfl
    have j1 : wr.cell? ⟨w.heap.size + 1 + 1, 1, none⟩ = some (.int .i64 0) := (cell_of_row wr _ 1 _ _ _ X.out.2.2).trans rfl
    have e0 : ¬ wr.heap.size = w.heap.size := by omega
    have e1 : ¬ wr.heap.size = w.heap.size + 1 := by omega
    have e2 : ¬ wr.heap.size = w.heap.size + 1 + 1 := by omega
    have e3 : ¬ w.heap.size = wr.heap.size := by omega
    have e4 : ¬ w.heap.size + 1 = wr.heap.size := by omega
    have e5 : ¬ w.heap.size + 1 + 1 = wr.heap.size := by omega
    have jf0 : wr.frozen? ⟨w.heap.size + 1 + 1, 0, none⟩ = false := by simp [World.frozen?, X.out.2.2]
    have jf1 : wr.frozen? ⟨w.heap.size + 1 + 1, 1, none⟩ = false := by simp [World.frozen?, X.out.2.2]
    by_cases hlt : k < L.length
    · obtain ⟨g, rfl, hg, hx⟩ := HA.out (by omega)
      have k0 : (0 : Int) ≤ (k : Int) := by omega
      have k1 : (k : Int) < (L.length : Int) := by omega
      have d0 := keep_cell hb (hx k (by omega)).1
      have d1 := keep_cell hb (hx k (by omega)).2
      obtain ⟨x, hxx⟩ : ∃ x, x = ge L k := ⟨_, rfl⟩
      have HX : Hid (ge (rowE L ⟨rf, rt, false⟩) k = x) := hid_mk (by rw [row_ge hlt, hxx]; rfl)
      rw [← hxx] at d0 d1
      have HPX : Hid (P x = (pastE ⟨rf, rt, false⟩ ⟨me, true⟩ x && inR x ⟨rf, rt, false⟩)) := hid_mk (by rw [HP.out])
      have eg : ¬ wr.heap.size = g := by have := hb.size; omega
      obtain ⟨N, hN⟩ : ∃ N, N = wr.heap.size := ⟨_, rfl⟩
      have HNN := hid_mk hN
      have Y : Hid ((wr.alloc (.cells #[.string x.key, .int .i64 x.id] 34)).heap[wr.heap.size]? = some (.cells #[.string x.key, .int .i64 x.id] 34 (0, 0))) := hid_mk (heap_alloc_new _ _)
      have ba : Below wr.heap.size wr (wr.alloc (.cells #[.string x.key, .int .i64 x.id] 34)) := balloc _
      have r0' : (wr.alloc (.cells #[.string x.key, .int .i64 x.id] 34)).cell? ⟨w.heap.size, 0, none⟩ = some (.string rf) := keep_cell ba r0
      have r1' : (wr.alloc (.cells #[.string x.key, .int .i64 x.id] 34)).cell? ⟨w.heap.size, 1, none⟩ = some (.string rt) := keep_cell ba r1
      have r2' : (wr.alloc (.cells #[.string x.key, .int .i64 x.id] 34)).cell? ⟨w.heap.size, 2, none⟩ = some (.bool false) := keep_cell ba r2
      have s0' : (wr.alloc (.cells #[.string x.key, .int .i64 x.id] 34)).cell? ⟨w.heap.size + 1, 0, none⟩ = some (.string me.key) := keep_cell ba s0
      have s1' : (wr.alloc (.cells #[.string x.key, .int .i64 x.id] 34)).cell? ⟨w.heap.size + 1, 1, none⟩ = some (.int .i64 me.id) := keep_cell ba s1
      have s2' : (wr.alloc (.cells #[.string x.key, .int .i64 x.id] 34)).cell? ⟨w.heap.size + 1, 2, none⟩ = some (.bool true) := keep_cell ba s2
      clear hx hxx hlt hN
      go_wp2_with fail
      refine (lawbelow_any me x _).mono ?_
      rintro e w3 ⟨rfl, b3⟩
      obtain ⟨u, hu⟩ : ∃ u, u = decide (lt me x) := ⟨_, rfl⟩
      rw [← hu]
      have HU := hid_mk hu
      have bb := bthen ba b3
      have Y3 := hid_mk (below_block b3 (lt_of_block Y.out) Y.out)
      have x0 := keep_cell b3 r0'
      have x1 := keep_cell b3 r1'
      have x2 := keep_cell b3 r2'
      have x3 := keep_cell b3 s0'
      have x4 := keep_cell b3 s1'
      have x5 := keep_cell b3 s2'
      have x6 : w3.cell? ⟨wr.heap.size, 0, none⟩ = some (.string x.key) := (cell_of_row w3 _ 0 _ _ _ Y3.out).trans rfl
      have x7 : w3.cell? ⟨wr.heap.size, 1, none⟩ = some (.int .i64 x.id) := (cell_of_row w3 _ 1 _ _ _ Y3.out).trans rfl
      clear hu r0' r1' r2' s0' s1' s2' b3
      cases u with
      | false =>
        have hb5 := hb.trans (bb.mono hb.size)
        have hx0 := below_block bb (lt_of_block X.out.1) X.out.1
        have hx1 := below_block bb (lt_of_block X.out.2.1) X.out.2.1
        have hx2 := below_block bb (lt_of_block X.out.2.2) X.out.2.2
        have X5 := hid_mk (And.intro hx0 (And.intro hx1 hx2))
        have HPZ : Hid (P x = false) := hid_mk (by rw [HPX.out]; unfold pastE; simp [← HU.out])
        have HK2 : Hid (∀ i, i < k + 1 → P (ge (rowE L ⟨rf, rt, false⟩) i) = false) := hid_mk (more_no HK.out (by rw [HX.out]; exact HPZ.out))
        clear hx0 hx1 hx2 ba hb X bb
        go_wp2_with fail
        exact ⟨⟨k + 1, by go_num, by omega, HK2, hb5, X5⟩, by simp [intOf]; omega⟩
      | true =>
        go_wp2_with fail
        refine (lin_any x ⟨rf, rt, false⟩ _).mono ?_
        rintro e w4 ⟨rfl, b4⟩
        obtain ⟨z, hz9⟩ : ∃ z, z = inR x ⟨rf, rt, false⟩ := ⟨_, rfl⟩
        rw [← hz9]
        have HPZ : Hid (P x = z) := hid_mk (by rw [HPX.out, hz9]; unfold pastE; simp [← HU.out])
        have b5 := bthen bb b4
        have hb5 := hb.trans (b5.mono hb.size)
        have hx0 := below_block b5 (lt_of_block X.out.1) X.out.1
        have hx1 := below_block b5 (lt_of_block X.out.2.1) X.out.2.1
        have hx2 := below_block b5 (lt_of_block X.out.2.2) X.out.2.2
        have X5 := hid_mk (And.intro hx0 (And.intro hx1 hx2))
        have hy := below_block b4 (lt_of_block Y3.out) Y3.out
        have j0 : w4.cell? ⟨w.heap.size + 1 + 1, 0, none⟩ = some (.string ⟨#[]⟩) := (cell_of_row w4 _ 0 _ _ _ hx2).trans rfl
        have j1 : w4.cell? ⟨w.heap.size + 1 + 1, 1, none⟩ = some (.int .i64 0) := (cell_of_row w4 _ 1 _ _ _ hx2).trans rfl
        have jf0 : w4.frozen? ⟨w.heap.size + 1 + 1, 0, none⟩ = false := by simp [World.frozen?, hx2]
        have jf1 : w4.frozen? ⟨w.heap.size + 1 + 1, 1, none⟩ = false := by simp [World.frozen?, hx2]
        have y0 : w4.cell? ⟨wr.heap.size, 0, none⟩ = some (.string x.key) := (cell_of_row w4 _ 0 _ _ _ hy).trans rfl
        have y1 : w4.cell? ⟨wr.heap.size, 1, none⟩ = some (.int .i64 x.id) := (cell_of_row w4 _ 1 _ _ _ hy).trans rfl
        clear hz9 hx0 hx1 hx2 hy b4 b5 ba hb X
        cases z with
        | false =>
          have HK2 : Hid (∀ i, i < k + 1 → P (ge (rowE L ⟨rf, rt, false⟩) i) = false) := hid_mk (more_no HK.out (by rw [HX.out]; exact HPZ.out))
          go_wp2_with fail
          exact ⟨⟨k + 1, by go_num, by omega, HK2, hb5, X5⟩, by simp [intOf]; omega⟩
        | true =>
          have HF : Hid (lawN L ⟨rf, rt, false⟩ ⟨me, true⟩ = (x, true)) := hid_mk (by rw [HN.out, find_hit (k := k) (by rw [row_length]; omega) HK.out (by rw [HX.out]; exact HPZ.out), HX.out]; rfl)
          have hbE : Below w.heap.size w ((w4.setCell ⟨w.heap.size + 1 + 1, 0, none⟩ (.string x.key)).setCell ⟨w.heap.size + 1 + 1, 1, none⟩ (.int .i64 x.id)) := (hb5.setCell (by simp; omega) _).setCell (by simp; omega) _
          go_wp2_with fail
          (try simp only [Exit.inBlock, Exit.then])
          refine bodyPost_ret (v := .tuple #[.agg #[.string x.key, .int .i64 x.id], .bool true]) ?_ rfl ?_
          · simp [results, Try.results18, go_sem, *]
          · exact ⟨by rw [HF.out], hbE⟩
    · have hk9 : k = L.length := by omega
      have HF : Hid (lawN L ⟨rf, rt, false⟩ ⟨me, true⟩ = (zE, false)) := hid_mk (by rw [HN.out, find_miss fun i hi => HK.out i (by rw [row_length] at hi; omega)]; rfl)
      have hbE : Below w.heap.size w ((wr.setCell ⟨w.heap.size + 1 + 1, 0, none⟩ (.string ⟨#[]⟩)).setCell ⟨w.heap.size + 1 + 1, 1, none⟩ (.int .i64 0)) := (hb.setCell (by simp; omega) _).setCell (by simp; omega) _
      go_wp2_with fail
      (try simp only [Exit.inBlock, Exit.then])
      refine bodyPost_ret (v := .tuple #[.agg #[.string zE.key, .int .i64 zE.id], .bool false]) ?_ rfl ?_
      · simp [results, Try.results18, go_sem, zE, *]
      · exact ⟨by rw [HF.out], hbE⟩

set_option maxHeartbeats 4000000 in
set_option maxRecDepth 100000 in
theorem lnext_tf (B : Nat) (L : List E) (v : Value) (rf rt : ByteArray) (me : E) (w : World) (hv : Rw B w 34 2 v L.length (ecells L)) (hL : L.length < 3000) :
    Calls Try.prog 18 #[v, .agg #[.string rf, .string rt, .bool true], .agg #[.string me.key, .int .i64 me.id, .bool false]] w fun e w' => e = .returned (.tuple #[.agg #[.string (lawN L ⟨rf, rt, true⟩ ⟨me, false⟩).1.key, .int .i64 (lawN L ⟨rf, rt, true⟩ ⟨me, false⟩).1.id], .bool (lawN L ⟨rf, rt, true⟩ ⟨me, false⟩).2]) ∧ Below w.heap.size w w' := by
  obtain ⟨A, cap, rfl, hc, hm, hA⟩ := rw_ents hv
  have HA := hid_mk hA
  obtain ⟨P, hp⟩ : ∃ P : E → Bool, P = fun e => pastE ⟨rf, rt, true⟩ ⟨me, false⟩ e && inR e ⟨rf, rt, true⟩ := ⟨_, rfl⟩
  have HP := hid_mk hp
  have HN : Hid (lawN L ⟨rf, rt, true⟩ ⟨me, false⟩ = fz ((rowE L ⟨rf, rt, true⟩).find? P)) := hid_mk (by rw [hp]; rfl)
  clear hv hA hp
  go_enter Try.func18, Try.ntmps18
  go_wp2_with fail
  obtain ⟨w0, hw0⟩ : ∃ w0, w0 = ((w.alloc (.cells #[.string rf, .string rt, .bool true] 29)).alloc (.cells #[.string me.key, .int .i64 me.id, .bool false] 36)).alloc (.cells #[.string ⟨#[]⟩, .int .i64 0] 34) := ⟨_, rfl⟩
  rw [← hw0]
  have B0 : Below w.heap.size w w0 := by rw [hw0]; exact bthen (bthen (balloc _) (balloc _)) (balloc _)
  have X0 : Hid (w0.heap[w.heap.size]? = some (.cells #[.string rf, .string rt, .bool true] 29 (0, 0)) ∧ w0.heap[w.heap.size + 1]? = some (.cells #[.string me.key, .int .i64 me.id, .bool false] 36 (0, 0)) ∧ w0.heap[w.heap.size + 1 + 1]? = some (.cells #[.string ⟨#[]⟩, .int .i64 0] 34 (0, 0))) := by
    have q1 : (w.alloc (.cells #[.string rf, .string rt, .bool true] 29)).heap.size = w.heap.size + 1 := by simp
    have q2 : ((w.alloc (.cells #[.string rf, .string rt, .bool true] 29)).alloc (.cells #[.string me.key, .int .i64 me.id, .bool false] 36)).heap.size = w.heap.size + 2 := by simp
    refine hid_mk ⟨?_, ?_, ?_⟩
    · rw [hw0, heap_alloc_old _ _ (by omega), heap_alloc_old _ _ (by omega)]; exact heap_alloc_new w _
    · rw [hw0, heap_alloc_old _ _ (by omega)]
      have h9 := heap_alloc_new (w.alloc (.cells #[.string rf, .string rt, .bool true] 29)) (.cells #[.string me.key, .int .i64 me.id, .bool false] 36)
      rw [q1] at h9; exact h9
    · rw [hw0]
      have h9 := heap_alloc_new ((w.alloc (.cells #[.string rf, .string rt, .bool true] 29)).alloc (.cells #[.string me.key, .int .i64 me.id, .bool false] 36)) (.cells #[.string ⟨#[]⟩, .int .i64 0] 34)
      rw [q2] at h9; exact h9
  clear hw0
  go_loopw [13] (fun iv wr => ∃ k : Nat, iv = .int .i64 k ∧ k ≤ L.length ∧ Hid (∀ i, i < k → P (ge (rowE L ⟨rf, rt, true⟩) i) = false) ∧ Below w.heap.size w wr ∧ Hid (wr.heap[w.heap.size]? = some (.cells #[.string rf, .string rt, .bool true] 29 (0, 0)) ∧ wr.heap[w.heap.size + 1]? = some (.cells #[.string me.key, .int .i64 me.id, .bool false] 36 (0, 0)) ∧ wr.heap[w.heap.size + 1 + 1]? = some (.cells #[.string ⟨#[]⟩, .int .i64 0] 34 (0, 0)))) (fun iv _ => L.length - (intOf iv).toNat)
  case atStart => exact ⟨0, rfl, Nat.zero_le _, hid_mk fun i h => absurd h (by omega), B0, X0⟩
  case round =>
    clear B0 X0
    obtain ⟨k, rfl, hk, HK, hb, X⟩ := hrel
    have hz := lt_of_block X.out.2.2
    have r0 : wr.cell? ⟨w.heap.size, 0, none⟩ = some (.string rf) := (cell_of_row wr _ 0 _ _ _ X.out.1).trans rfl
    have r1 : wr.cell? ⟨w.heap.size, 1, none⟩ = some (.string rt) := (cell_of_row wr _ 1 _ _ _ X.out.1).trans rfl
    have r2 : wr.cell? ⟨w.heap.size, 2, none⟩ = some (.bool true) := (cell_of_row wr _ 2 _ _ _ X.out.1).trans rfl
    have s0 : wr.cell? ⟨w.heap.size + 1, 0, none⟩ = some (.string me.key) := (cell_of_row wr _ 0 _ _ _ X.out.2.1).trans rfl
    have s1 : wr.cell? ⟨w.heap.size + 1, 1, none⟩ = some (.int .i64 me.id) := (cell_of_row wr _ 1 _ _ _ X.out.2.1).trans rfl
    have s2 : wr.cell? ⟨w.heap.size + 1, 2, none⟩ = some (.bool false) := (cell_of_row wr _ 2 _ _ _ X.out.2.1).trans rfl
    have j0 : wr.cell? ⟨w.heap.size + 1 + 1, 0, none⟩ = some (.string ⟨#[]⟩) := (cell_of_row wr _ 0 _ _ _ X.out.2.2).trans rfl
    have j1 : wr.cell? ⟨w.heap.size + 1 + 1, 1, none⟩ = some (.int .i64 0) := (cell_of_row wr _ 1 _ _ _ X.out.2.2).trans rfl
    have e0 : ¬ wr.heap.size = w.heap.size := by omega
    have e1 : ¬ wr.heap.size = w.heap.size + 1 := by omega
    have e2 : ¬ wr.heap.size = w.heap.size + 1 + 1 := by omega
    have e3 : ¬ w.heap.size = wr.heap.size := by omega
    have e4 : ¬ w.heap.size + 1 = wr.heap.size := by omega
    have e5 : ¬ w.heap.size + 1 + 1 = wr.heap.size := by omega
    have jf0 : wr.frozen? ⟨w.heap.size + 1 + 1, 0, none⟩ = false := by simp [World.frozen?, X.out.2.2]
    have jf1 : wr.frozen? ⟨w.heap.size + 1 + 1, 1, none⟩ = false := by simp [World.frozen?, X.out.2.2]
    by_cases hlt : k < L.length
    · obtain ⟨g, rfl, hg, hx⟩ := HA.out (by omega)
      obtain ⟨M, hM⟩ : ∃ M, L.length - 1 - k = M := ⟨_, rfl⟩
      have HM := hid_mk hM
      have k0 : (0 : Int) ≤ (M : Int) := by omega
      have k1 : (M : Int) < (L.length : Int) := by omega
      have k2 : (0 : Int) ≤ (k : Int) := by omega
      have k3 : (k : Int) < (L.length : Int) := by omega
      have q1 : IntKind.i64.wrap ((L.length : Int) - 1) = (L.length : Int) - 1 := by rw [IntKind.wrap_i64]; omega
      have q2 : IntKind.i64.wrap ((L.length : Int) - 1 - (k : Int)) = (M : Int) := by rw [IntKind.wrap_i64]; omega
      have i0 := keep_cell hb (hx k (by omega)).1
      have i1 := keep_cell hb (hx k (by omega)).2
      have d0 := keep_cell hb (hx M (by omega)).1
      have d1 := keep_cell hb (hx M (by omega)).2
      obtain ⟨y, hy9⟩ : ∃ y, y = ge L k := ⟨_, rfl⟩
      rw [← hy9] at i0 i1
      clear hy9
      have by9 : Below wr.heap.size wr (wr.alloc (.cells #[.string y.key, .int .i64 y.id] 34)) := balloc _
      have r2y : (wr.alloc (.cells #[.string y.key, .int .i64 y.id] 34)).cell? ⟨w.heap.size, 2, none⟩ = some (.bool true) := keep_cell by9 r2
      have d0y : (wr.alloc (.cells #[.string y.key, .int .i64 y.id] 34)).cell? ⟨g, M * 2, none⟩ = some (.string (ge L M).key) := keep_cell by9 d0
      have d1y : (wr.alloc (.cells #[.string y.key, .int .i64 y.id] 34)).cell? ⟨g, M * 2 + 1, none⟩ = some (.int .i64 (ge L M).id) := keep_cell by9 d1
      obtain ⟨x, hxx⟩ : ∃ x, x = ge L M := ⟨_, rfl⟩
      have HX : Hid (ge (rowE L ⟨rf, rt, true⟩) k = x) := hid_mk (by rw [row_ge hlt, hxx]; rw [hM]; rfl)
      rw [← hxx] at d0 d1 d0y d1y
      have HPX : Hid (P x = (pastE ⟨rf, rt, true⟩ ⟨me, false⟩ x && inR x ⟨rf, rt, true⟩)) := hid_mk (by rw [HP.out])
      have eg : ¬ wr.heap.size = g := by have := hb.size; omega
      obtain ⟨N, hN⟩ : ∃ N, N = wr.heap.size := ⟨_, rfl⟩
      have HNN := hid_mk hN
      have Y : Hid ((wr.alloc (.cells #[.string x.key, .int .i64 x.id] 34)).heap[wr.heap.size]? = some (.cells #[.string x.key, .int .i64 x.id] 34 (0, 0))) := hid_mk (heap_alloc_new _ _)
      have ba : Below wr.heap.size wr (wr.alloc (.cells #[.string x.key, .int .i64 x.id] 34)) := balloc _
      have r0' : (wr.alloc (.cells #[.string x.key, .int .i64 x.id] 34)).cell? ⟨w.heap.size, 0, none⟩ = some (.string rf) := keep_cell ba r0
      have r1' : (wr.alloc (.cells #[.string x.key, .int .i64 x.id] 34)).cell? ⟨w.heap.size, 1, none⟩ = some (.string rt) := keep_cell ba r1
      have r2' : (wr.alloc (.cells #[.string x.key, .int .i64 x.id] 34)).cell? ⟨w.heap.size, 2, none⟩ = some (.bool true) := keep_cell ba r2
      have s0' : (wr.alloc (.cells #[.string x.key, .int .i64 x.id] 34)).cell? ⟨w.heap.size + 1, 0, none⟩ = some (.string me.key) := keep_cell ba s0
      have s1' : (wr.alloc (.cells #[.string x.key, .int .i64 x.id] 34)).cell? ⟨w.heap.size + 1, 1, none⟩ = some (.int .i64 me.id) := keep_cell ba s1
      have s2' : (wr.alloc (.cells #[.string x.key, .int .i64 x.id] 34)).cell? ⟨w.heap.size + 1, 2, none⟩ = some (.bool false) := keep_cell ba s2
      clear hx hxx hlt hN hM
      go_wp2_with fail
      refine (lin_any x ⟨rf, rt, true⟩ _).mono ?_
      rintro e w4 ⟨rfl, b4⟩
      obtain ⟨z, hz9⟩ : ∃ z, z = inR x ⟨rf, rt, true⟩ := ⟨_, rfl⟩
      rw [← hz9]
      have HPZ : Hid (P x = z) := hid_mk (by rw [HPX.out, hz9]; rfl)
      have b5 := bthen ba b4
      have hb5 := hb.trans (b5.mono hb.size)
      have hx0 := below_block b5 (lt_of_block X.out.1) X.out.1
      have hx1 := below_block b5 (lt_of_block X.out.2.1) X.out.2.1
      have hx2 := below_block b5 (lt_of_block X.out.2.2) X.out.2.2
      have X5 := hid_mk (And.intro hx0 (And.intro hx1 hx2))
      have hy := below_block b4 (lt_of_block Y.out) Y.out
      have j0 : w4.cell? ⟨w.heap.size + 1 + 1, 0, none⟩ = some (.string ⟨#[]⟩) := (cell_of_row w4 _ 0 _ _ _ hx2).trans rfl
      have j1 : w4.cell? ⟨w.heap.size + 1 + 1, 1, none⟩ = some (.int .i64 0) := (cell_of_row w4 _ 1 _ _ _ hx2).trans rfl
      have jf0 : w4.frozen? ⟨w.heap.size + 1 + 1, 0, none⟩ = false := by simp [World.frozen?, hx2]
      have jf1 : w4.frozen? ⟨w.heap.size + 1 + 1, 1, none⟩ = false := by simp [World.frozen?, hx2]
      have y0 : w4.cell? ⟨wr.heap.size, 0, none⟩ = some (.string x.key) := (cell_of_row w4 _ 0 _ _ _ hy).trans rfl
      have y1 : w4.cell? ⟨wr.heap.size, 1, none⟩ = some (.int .i64 x.id) := (cell_of_row w4 _ 1 _ _ _ hy).trans rfl
      clear hz9 hx0 hx1 hx2 hy b4 b5 ba hb X
      cases z with
      | false =>
        have HK2 : Hid (∀ i, i < k + 1 → P (ge (rowE L ⟨rf, rt, true⟩) i) = false) := hid_mk (more_no HK.out (by rw [HX.out]; exact HPZ.out))
        go_wp2_with fail
        exact ⟨⟨k + 1, by go_num, by omega, HK2, hb5, X5⟩, by simp [intOf]; omega⟩
      | true =>
        have HF : Hid (lawN L ⟨rf, rt, true⟩ ⟨me, false⟩ = (x, true)) := hid_mk (by rw [HN.out, find_hit (k := k) (by rw [row_length]; omega) HK.out (by rw [HX.out]; exact HPZ.out), HX.out]; rfl)
        have hbE : Below w.heap.size w ((w4.setCell ⟨w.heap.size + 1 + 1, 0, none⟩ (.string x.key)).setCell ⟨w.heap.size + 1 + 1, 1, none⟩ (.int .i64 x.id)) := (hb5.setCell (by simp; omega) _).setCell (by simp; omega) _
        go_wp2_with fail
        (try simp only [Exit.inBlock, Exit.then])
        refine bodyPost_ret (v := .tuple #[.agg #[.string x.key, .int .i64 x.id], .bool true]) ?_ rfl ?_
        · simp [results, Try.results18, go_sem, *]
        · exact ⟨by rw [HF.out], hbE⟩
    · have hk9 : k = L.length := by omega
      have HF : Hid (lawN L ⟨rf, rt, true⟩ ⟨me, false⟩ = (zE, false)) := hid_mk (by rw [HN.out, find_miss fun i hi => HK.out i (by rw [row_length] at hi; omega)]; rfl)
      have hbE : Below w.heap.size w ((wr.setCell ⟨w.heap.size + 1 + 1, 0, none⟩ (.string ⟨#[]⟩)).setCell ⟨w.heap.size + 1 + 1, 1, none⟩ (.int .i64 0)) := (hb.setCell (by simp; omega) _).setCell (by simp; omega) _
      go_wp2_with fail
      (try simp only [Exit.inBlock, Exit.then])
      refine bodyPost_ret (v := .tuple #[.agg #[.string zE.key, .int .i64 zE.id], .bool false]) ?_ rfl ?_
      · simp [results, Try.results18, go_sem, zE, *]
      · exact ⟨by rw [HF.out], hbE⟩

set_option maxHeartbeats 4000000 in
set_option maxRecDepth 100000 in
theorem lnext_tt (B : Nat) (L : List E) (v : Value) (rf rt : ByteArray) (me : E) (w : World) (hv : Rw B w 34 2 v L.length (ecells L)) (hL : L.length < 3000) :
    Calls Try.prog 18 #[v, .agg #[.string rf, .string rt, .bool true], .agg #[.string me.key, .int .i64 me.id, .bool true]] w fun e w' => e = .returned (.tuple #[.agg #[.string (lawN L ⟨rf, rt, true⟩ ⟨me, true⟩).1.key, .int .i64 (lawN L ⟨rf, rt, true⟩ ⟨me, true⟩).1.id], .bool (lawN L ⟨rf, rt, true⟩ ⟨me, true⟩).2]) ∧ Below w.heap.size w w' := by
  obtain ⟨A, cap, rfl, hc, hm, hA⟩ := rw_ents hv
  have HA := hid_mk hA
  obtain ⟨P, hp⟩ : ∃ P : E → Bool, P = fun e => pastE ⟨rf, rt, true⟩ ⟨me, true⟩ e && inR e ⟨rf, rt, true⟩ := ⟨_, rfl⟩
  have HP := hid_mk hp
  have HN : Hid (lawN L ⟨rf, rt, true⟩ ⟨me, true⟩ = fz ((rowE L ⟨rf, rt, true⟩).find? P)) := hid_mk (by rw [hp]; rfl)
  clear hv hA hp
  go_enter Try.func18, Try.ntmps18
  go_wp2_with fail
  obtain ⟨w0, hw0⟩ : ∃ w0, w0 = ((w.alloc (.cells #[.string rf, .string rt, .bool true] 29)).alloc (.cells #[.string me.key, .int .i64 me.id, .bool true] 36)).alloc (.cells #[.string ⟨#[]⟩, .int .i64 0] 34) := ⟨_, rfl⟩
  rw [← hw0]
  have B0 : Below w.heap.size w w0 := by rw [hw0]; exact bthen (bthen (balloc _) (balloc _)) (balloc _)
  have X0 : Hid (w0.heap[w.heap.size]? = some (.cells #[.string rf, .string rt, .bool true] 29 (0, 0)) ∧ w0.heap[w.heap.size + 1]? = some (.cells #[.string me.key, .int .i64 me.id, .bool true] 36 (0, 0)) ∧ w0.heap[w.heap.size + 1 + 1]? = some (.cells #[.string ⟨#[]⟩, .int .i64 0] 34 (0, 0))) := by
    have q1 : (w.alloc (.cells #[.string rf, .string rt, .bool true] 29)).heap.size = w.heap.size + 1 := by simp
    have q2 : ((w.alloc (.cells #[.string rf, .string rt, .bool true] 29)).alloc (.cells #[.string me.key, .int .i64 me.id, .bool true] 36)).heap.size = w.heap.size + 2 := by simp
    refine hid_mk ⟨?_, ?_, ?_⟩
    · rw [hw0, heap_alloc_old _ _ (by omega), heap_alloc_old _ _ (by omega)]; exact heap_alloc_new w _
    · rw [hw0, heap_alloc_old _ _ (by omega)]
      have h9 := heap_alloc_new (w.alloc (.cells #[.string rf, .string rt, .bool true] 29)) (.cells #[.string me.key, .int .i64 me.id, .bool true] 36)
      rw [q1] at h9; exact h9
    · rw [hw0]
      have h9 := heap_alloc_new ((w.alloc (.cells #[.string rf, .string rt, .bool true] 29)).alloc (.cells #[.string me.key, .int .i64 me.id, .bool true] 36)) (.cells #[.string ⟨#[]⟩, .int .i64 0] 34)
      rw [q2] at h9; exact h9
  clear hw0
  go_loopw [13] (fun iv wr => ∃ k : Nat, iv = .int .i64 k ∧ k ≤ L.length ∧ Hid (∀ i, i < k → P (ge (rowE L ⟨rf, rt, true⟩) i) = false) ∧ Below w.heap.size w wr ∧ Hid (wr.heap[w.heap.size]? = some (.cells #[.string rf, .string rt, .bool true] 29 (0, 0)) ∧ wr.heap[w.heap.size + 1]? = some (.cells #[.string me.key, .int .i64 me.id, .bool true] 36 (0, 0)) ∧ wr.heap[w.heap.size + 1 + 1]? = some (.cells #[.string ⟨#[]⟩, .int .i64 0] 34 (0, 0)))) (fun iv _ => L.length - (intOf iv).toNat)
  case atStart => exact ⟨0, rfl, Nat.zero_le _, hid_mk fun i h => absurd h (by omega), B0, X0⟩
  case round =>
    clear B0 X0
    obtain ⟨k, rfl, hk, HK, hb, X⟩ := hrel
    have hz := lt_of_block X.out.2.2
    have r0 : wr.cell? ⟨w.heap.size, 0, none⟩ = some (.string rf) := (cell_of_row wr _ 0 _ _ _ X.out.1).trans rfl
    have r1 : wr.cell? ⟨w.heap.size, 1, none⟩ = some (.string rt) := (cell_of_row wr _ 1 _ _ _ X.out.1).trans rfl
    have r2 : wr.cell? ⟨w.heap.size, 2, none⟩ = some (.bool true) := (cell_of_row wr _ 2 _ _ _ X.out.1).trans rfl
    have s0 : wr.cell? ⟨w.heap.size + 1, 0, none⟩ = some (.string me.key) := (cell_of_row wr _ 0 _ _ _ X.out.2.1).trans rfl
    have s1 : wr.cell? ⟨w.heap.size + 1, 1, none⟩ = some (.int .i64 me.id) := (cell_of_row wr _ 1 _ _ _ X.out.2.1).trans rfl
    have s2 : wr.cell? ⟨w.heap.size + 1, 2, none⟩ = some (.bool true) := (cell_of_row wr _ 2 _ _ _ X.out.2.1).trans rfl
    have j0 : wr.cell? ⟨w.heap.size + 1 + 1, 0, none⟩ = some (.string ⟨#[]⟩) := (cell_of_row wr _ 0 _ _ _ X.out.2.2).trans rfl
    have j1 : wr.cell? ⟨w.heap.size + 1 + 1, 1, none⟩ = some (.int .i64 0) := (cell_of_row wr _ 1 _ _ _ X.out.2.2).trans rfl
    have e0 : ¬ wr.heap.size = w.heap.size := by omega
    have e1 : ¬ wr.heap.size = w.heap.size + 1 := by omega
    have e2 : ¬ wr.heap.size = w.heap.size + 1 + 1 := by omega
    have e3 : ¬ w.heap.size = wr.heap.size := by omega
    have e4 : ¬ w.heap.size + 1 = wr.heap.size := by omega
    have e5 : ¬ w.heap.size + 1 + 1 = wr.heap.size := by omega
    have jf0 : wr.frozen? ⟨w.heap.size + 1 + 1, 0, none⟩ = false := by simp [World.frozen?, X.out.2.2]
    have jf1 : wr.frozen? ⟨w.heap.size + 1 + 1, 1, none⟩ = false := by simp [World.frozen?, X.out.2.2]
    by_cases hlt : k < L.length
    · obtain ⟨g, rfl, hg, hx⟩ := HA.out (by omega)
      obtain ⟨M, hM⟩ : ∃ M, L.length - 1 - k = M := ⟨_, rfl⟩
      have HM := hid_mk hM
      have k0 : (0 : Int) ≤ (M : Int) := by omega
      have k1 : (M : Int) < (L.length : Int) := by omega
      have k2 : (0 : Int) ≤ (k : Int) := by omega
      have k3 : (k : Int) < (L.length : Int) := by omega
      have q1 : IntKind.i64.wrap ((L.length : Int) - 1) = (L.length : Int) - 1 := by rw [IntKind.wrap_i64]; omega
      have q2 : IntKind.i64.wrap ((L.length : Int) - 1 - (k : Int)) = (M : Int) := by rw [IntKind.wrap_i64]; omega
      have i0 := keep_cell hb (hx k (by omega)).1
      have i1 := keep_cell hb (hx k (by omega)).2
      have d0 := keep_cell hb (hx M (by omega)).1
      have d1 := keep_cell hb (hx M (by omega)).2
      obtain ⟨y, hy9⟩ : ∃ y, y = ge L k := ⟨_, rfl⟩
      rw [← hy9] at i0 i1
      clear hy9
      have by9 : Below wr.heap.size wr (wr.alloc (.cells #[.string y.key, .int .i64 y.id] 34)) := balloc _
      have r2y : (wr.alloc (.cells #[.string y.key, .int .i64 y.id] 34)).cell? ⟨w.heap.size, 2, none⟩ = some (.bool true) := keep_cell by9 r2
      have d0y : (wr.alloc (.cells #[.string y.key, .int .i64 y.id] 34)).cell? ⟨g, M * 2, none⟩ = some (.string (ge L M).key) := keep_cell by9 d0
      have d1y : (wr.alloc (.cells #[.string y.key, .int .i64 y.id] 34)).cell? ⟨g, M * 2 + 1, none⟩ = some (.int .i64 (ge L M).id) := keep_cell by9 d1
      obtain ⟨x, hxx⟩ : ∃ x, x = ge L M := ⟨_, rfl⟩
      have HX : Hid (ge (rowE L ⟨rf, rt, true⟩) k = x) := hid_mk (by rw [row_ge hlt, hxx]; rw [hM]; rfl)
      rw [← hxx] at d0 d1 d0y d1y
      have HPX : Hid (P x = (pastE ⟨rf, rt, true⟩ ⟨me, true⟩ x && inR x ⟨rf, rt, true⟩)) := hid_mk (by rw [HP.out])
      have eg : ¬ wr.heap.size = g := by have := hb.size; omega
      obtain ⟨N, hN⟩ : ∃ N, N = wr.heap.size := ⟨_, rfl⟩
      have HNN := hid_mk hN
      have Y : Hid ((wr.alloc (.cells #[.string x.key, .int .i64 x.id] 34)).heap[wr.heap.size]? = some (.cells #[.string x.key, .int .i64 x.id] 34 (0, 0))) := hid_mk (heap_alloc_new _ _)
      have ba : Below wr.heap.size wr (wr.alloc (.cells #[.string x.key, .int .i64 x.id] 34)) := balloc _
      have r0' : (wr.alloc (.cells #[.string x.key, .int .i64 x.id] 34)).cell? ⟨w.heap.size, 0, none⟩ = some (.string rf) := keep_cell ba r0
      have r1' : (wr.alloc (.cells #[.string x.key, .int .i64 x.id] 34)).cell? ⟨w.heap.size, 1, none⟩ = some (.string rt) := keep_cell ba r1
      have r2' : (wr.alloc (.cells #[.string x.key, .int .i64 x.id] 34)).cell? ⟨w.heap.size, 2, none⟩ = some (.bool true) := keep_cell ba r2
      have s0' : (wr.alloc (.cells #[.string x.key, .int .i64 x.id] 34)).cell? ⟨w.heap.size + 1, 0, none⟩ = some (.string me.key) := keep_cell ba s0
      have s1' : (wr.alloc (.cells #[.string x.key, .int .i64 x.id] 34)).cell? ⟨w.heap.size + 1, 1, none⟩ = some (.int .i64 me.id) := keep_cell ba s1
      have s2' : (wr.alloc (.cells #[.string x.key, .int .i64 x.id] 34)).cell? ⟨w.heap.size + 1, 2, none⟩ = some (.bool true) := keep_cell ba s2
      clear hx hxx hlt hN hM
      go_wp2_with fail
      refine (lawbelow_any x me _).mono ?_
      rintro e w3 ⟨rfl, b3⟩
      obtain ⟨u, hu⟩ : ∃ u, u = decide (lt x me) := ⟨_, rfl⟩
      rw [← hu]
      have HU := hid_mk hu
      have bb := bthen ba b3
      have Y3 := hid_mk (below_block b3 (lt_of_block Y.out) Y.out)
      have x0 := keep_cell b3 r0'
      have x1 := keep_cell b3 r1'
      have x2 := keep_cell b3 r2'
      have x3 := keep_cell b3 s0'
      have x4 := keep_cell b3 s1'
      have x5 := keep_cell b3 s2'
      have x6 : w3.cell? ⟨wr.heap.size, 0, none⟩ = some (.string x.key) := (cell_of_row w3 _ 0 _ _ _ Y3.out).trans rfl
      have x7 : w3.cell? ⟨wr.heap.size, 1, none⟩ = some (.int .i64 x.id) := (cell_of_row w3 _ 1 _ _ _ Y3.out).trans rfl
      clear hu r0' r1' r2' s0' s1' s2' b3
      cases u with
      | false =>
        have hb5 := hb.trans (bb.mono hb.size)
        have hx0 := below_block bb (lt_of_block X.out.1) X.out.1
        have hx1 := below_block bb (lt_of_block X.out.2.1) X.out.2.1
        have hx2 := below_block bb (lt_of_block X.out.2.2) X.out.2.2
        have X5 := hid_mk (And.intro hx0 (And.intro hx1 hx2))
        have HPZ : Hid (P x = false) := hid_mk (by rw [HPX.out]; unfold pastE; simp [← HU.out])
        have HK2 : Hid (∀ i, i < k + 1 → P (ge (rowE L ⟨rf, rt, true⟩) i) = false) := hid_mk (more_no HK.out (by rw [HX.out]; exact HPZ.out))
        clear hx0 hx1 hx2 ba hb X bb
        go_wp2_with fail
        exact ⟨⟨k + 1, by go_num, by omega, HK2, hb5, X5⟩, by simp [intOf]; omega⟩
      | true =>
        go_wp2_with fail
        refine (lin_any x ⟨rf, rt, true⟩ _).mono ?_
        rintro e w4 ⟨rfl, b4⟩
        obtain ⟨z, hz9⟩ : ∃ z, z = inR x ⟨rf, rt, true⟩ := ⟨_, rfl⟩
        rw [← hz9]
        have HPZ : Hid (P x = z) := hid_mk (by rw [HPX.out, hz9]; unfold pastE; simp [← HU.out])
        have b5 := bthen bb b4
        have hb5 := hb.trans (b5.mono hb.size)
        have hx0 := below_block b5 (lt_of_block X.out.1) X.out.1
        have hx1 := below_block b5 (lt_of_block X.out.2.1) X.out.2.1
        have hx2 := below_block b5 (lt_of_block X.out.2.2) X.out.2.2
        have X5 := hid_mk (And.intro hx0 (And.intro hx1 hx2))
        have hy := below_block b4 (lt_of_block Y3.out) Y3.out
        have j0 : w4.cell? ⟨w.heap.size + 1 + 1, 0, none⟩ = some (.string ⟨#[]⟩) := (cell_of_row w4 _ 0 _ _ _ hx2).trans rfl
        have j1 : w4.cell? ⟨w.heap.size + 1 + 1, 1, none⟩ = some (.int .i64 0) := (cell_of_row w4 _ 1 _ _ _ hx2).trans rfl
        have jf0 : w4.frozen? ⟨w.heap.size + 1 + 1, 0, none⟩ = false := by simp [World.frozen?, hx2]
        have jf1 : w4.frozen? ⟨w.heap.size + 1 + 1, 1, none⟩ = false := by simp [World.frozen?, hx2]
        have y0 : w4.cell? ⟨wr.heap.size, 0, none⟩ = some (.string x.key) := (cell_of_row w4 _ 0 _ _ _ hy).trans rfl
        have y1 : w4.cell? ⟨wr.heap.size, 1, none⟩ = some (.int .i64 x.id) := (cell_of_row w4 _ 1 _ _ _ hy).trans rfl
        clear hz9 hx0 hx1 hx2 hy b4 b5 ba hb X
        cases z with
        | false =>
          have HK2 : Hid (∀ i, i < k + 1 → P (ge (rowE L ⟨rf, rt, true⟩) i) = false) := hid_mk (more_no HK.out (by rw [HX.out]; exact HPZ.out))
          go_wp2_with fail
          exact ⟨⟨k + 1, by go_num, by omega, HK2, hb5, X5⟩, by simp [intOf]; omega⟩
        | true =>
          have HF : Hid (lawN L ⟨rf, rt, true⟩ ⟨me, true⟩ = (x, true)) := hid_mk (by rw [HN.out, find_hit (k := k) (by rw [row_length]; omega) HK.out (by rw [HX.out]; exact HPZ.out), HX.out]; rfl)
          have hbE : Below w.heap.size w ((w4.setCell ⟨w.heap.size + 1 + 1, 0, none⟩ (.string x.key)).setCell ⟨w.heap.size + 1 + 1, 1, none⟩ (.int .i64 x.id)) := (hb5.setCell (by simp; omega) _).setCell (by simp; omega) _
          go_wp2_with fail
          (try simp only [Exit.inBlock, Exit.then])
          refine bodyPost_ret (v := .tuple #[.agg #[.string x.key, .int .i64 x.id], .bool true]) ?_ rfl ?_
          · simp [results, Try.results18, go_sem, *]
          · exact ⟨by rw [HF.out], hbE⟩
    · have hk9 : k = L.length := by omega
      have HF : Hid (lawN L ⟨rf, rt, true⟩ ⟨me, true⟩ = (zE, false)) := hid_mk (by rw [HN.out, find_miss fun i hi => HK.out i (by rw [row_length] at hi; omega)]; rfl)
      have hbE : Below w.heap.size w ((wr.setCell ⟨w.heap.size + 1 + 1, 0, none⟩ (.string ⟨#[]⟩)).setCell ⟨w.heap.size + 1 + 1, 1, none⟩ (.int .i64 0)) := (hb.setCell (by simp; omega) _).setCell (by simp; omega) _
      go_wp2_with fail
      (try simp only [Exit.inBlock, Exit.then])
      refine bodyPost_ret (v := .tuple #[.agg #[.string zE.key, .int .i64 zE.id], .bool false]) ?_ rfl ?_
      · simp [results, Try.results18, go_sem, zE, *]
      · exact ⟨by rw [HF.out], hbE⟩

theorem lnext_any (B : Nat) (L : List E) (v : Value) (r : Rg) (m : Mk) (w : World) (hv : Rw B w 34 2 v L.length (ecells L)) (hL : L.length < 3000) :
    Calls Try.prog 18 #[v, .agg #[.string r.f, .string r.t, .bool r.dn], .agg #[.string m.e.key, .int .i64 m.e.id, .bool m.b]] w fun e w' => e = .returned (.tuple #[.agg #[.string (lawN L r m).1.key, .int .i64 (lawN L r m).1.id], .bool (lawN L r m).2]) ∧ Below w.heap.size w w' := by
  obtain ⟨rf, rt, rd⟩ := r
  obtain ⟨me, mb⟩ := m
  cases rd <;> cases mb
  · exact lnext_ff B L v rf rt me w hv hL
  · exact lnext_ft B L v rf rt me w hv hL
  · exact lnext_tf B L v rf rt me w hv hL
  · exact lnext_tt B L v rf rt me w hv hL

end Go.Proofs.Ytanomhjekdefeaa
