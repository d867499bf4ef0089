/- A number found in a row of records. -/
import Derived.Test.YtlehgmfpblifkaaDoorHeapA
namespace Go.Proofs.YtlehgmfpblifkaaDoor
open Go.RowKit
set_option linter.unusedVariables false
attribute [local go_sem ↓] Go.wp_at_zero Go.wp_at_succ

theorem keep_cell {W w1 : World} (hb : Below W.heap.size W w1) {a : Addr} {v : Value} (h : W.cell? a = some v) : w1.cell? a = some v := (hb.cell (World.block_lt_of_cell? W a h)).trans h
theorem ret_pair {a b : Int} {x y : Bool} (h : a = b) (h' : x = y) : Ending.returned (.tuple #[.int .i64 a, .bool x]) = .returned (.tuple #[.int .i64 b, .bool y]) := by rw [h, h']
theorem isnan_any (x : Int) (w : World) : Calls Tryd.prog 33 #[.int .i64 x] w fun e w' => e = .returned (.bool false) ∧ w = w' := by
  have q : (x != x) = false := by simp
  go_enter Tryd.func33, Tryd.ntmps33
  go_wp2_with fail
  go_ret
  exact ⟨by simp, rfl⟩
theorem cmpint_any (x y : Int) (w : World) : Calls Tryd.prog 26 #[.int .i64 x, .int .i64 y] w fun e w' => e = .returned (.int .i64 (sgn x y)) ∧ w = w' := by
  by_cases h1 : x < y
  · have hs : Hid (sgn x y = -1) := if_pos h1
    go_enter Tryd.func26, Tryd.ntmps26
    go_wp2_with (go_at_call 33; refine (isnan_any _ _).mono ?_; rintro e w' ⟨rfl, rfl⟩)
    go_ret
    exact ⟨ret_int hs.out.symm, rfl⟩
  · by_cases h2 : y < x
    · have hs : Hid (sgn x y = 1) := (if_neg h1).trans (if_pos h2)
      go_enter Tryd.func26, Tryd.ntmps26
      go_wp2_with (go_at_call 33; refine (isnan_any _ _).mono ?_; rintro e w' ⟨rfl, rfl⟩)
      go_ret
      exact ⟨ret_int hs.out.symm, rfl⟩
    · have hs : Hid (sgn x y = 0) := (if_neg h1).trans (if_neg h2)
      go_enter Tryd.func26, Tryd.ntmps26
      go_wp2_with (go_at_call 33; refine (isnan_any _ _).mono ?_; rintro e w' ⟨rfl, rfl⟩)
      go_ret
      exact ⟨ret_int hs.out.symm, rfl⟩
theorem sgn_lt (x y : Int) : (sgn x y < 0) = (x < y) := by unfold sgn; split <;> (try split) <;> simp <;> omega
theorem sgn_eq (x y : Int) : (sgn x y = 0) = (x = y) := by unfold sgn; split <;> (try split) <;> simp <;> omega

theorem doccmp_any (d : Dc) (id : Int) (w : World) : Calls Tryd.prog 25 #[d.agg, .int .i64 id] w fun e w' => e = .returned (.int .i64 (sgn d.id id)) ∧ Below w.heap.size w w' := by
  obtain ⟨di, vk, vi, vt, vl, vf⟩ := d
  unfold Dc.agg Sl.v
  go_enter Tryd.func25, Tryd.ntmps25
  go_wp2_with (go_at_call 26; refine (cmpint_any _ _ _).mono ?_; rintro e w' ⟨rfl, rfl⟩)
  go_ret
  exact ⟨rfl, balloc _⟩

/-! ### Lists that rise by number -/
def Asc (l : List Dc) : Prop := l.Pairwise fun a b => a.id < b.id
/-- Where a number is, or would be. -/
def posD (l : List Dc) (id : Int) : Nat := (l.filter fun d => decide (d.id < id)).length
def hasD (l : List Dc) (id : Int) : Bool := l.any fun d => decide (d.id = id)
theorem asc_gc {l : List Dc} (h : Asc l) {i j : Nat} (hij : i < j) (hj : j < l.length) : (gc l i).id < (gc l j).id := by
  rw [gc_get l i (by omega), gc_get l j hj]
  exact List.pairwise_iff_getElem.1 h i j _ _ hij
theorem filt_take {l : List Dc} {p : Dc → Bool} (k : Nat) (hk : k ≤ l.length) (h1 : ∀ t, t < k → p (gc l t) = true) (h2 : ∀ t, k ≤ t → t < l.length → p (gc l t) = false) : l.filter p = l.take k := by
  have h4 : (l.take k).filter p = l.take k := List.filter_eq_self.2 fun x hx => by
    obtain ⟨j, hj, rfl⟩ := List.getElem_of_mem hx
    have hj2 : j < k := by rw [List.length_take] at hj; omega
    rw [List.getElem_take, ← gc_get l j (by omega)]
    exact h1 j hj2
  have h5 : (l.drop k).filter p = [] := List.filter_eq_nil_iff.2 fun x hx => by
    obtain ⟨j, hj, rfl⟩ := List.getElem_of_mem hx
    rw [List.length_drop] at hj
    rw [List.getElem_drop, ← gc_get l (k + j) (by omega), h2 (k + j) (by omega) (by omega)]
    simp
  calc l.filter p = (l.take k ++ l.drop k).filter p := by rw [List.take_append_drop]
    _ = l.take k := by rw [List.filter_append, h4, h5, List.append_nil]
theorem pos_at {l : List Dc} (h : Asc l) (id : Int) (k : Nat) (hk : k ≤ l.length) (h1 : ∀ t, t < k → (gc l t).id < id) (h2 : ∀ t, k ≤ t → t < l.length → id ≤ (gc l t).id) :
    posD l id = k ∧ hasD l id = decide (k < l.length ∧ (gc l k).id = id) := by
  have h3 := filt_take (p := fun d => decide (d.id < id)) k hk (fun t ht => decide_eq_true (h1 t ht)) (fun t ht hl => decide_eq_false (by have := h2 t ht hl; omega))
  refine ⟨by unfold posD; rw [h3, List.length_take]; omega, ?_⟩
  unfold hasD
  by_cases hx : k < l.length ∧ (gc l k).id = id
  · rw [decide_eq_true hx, List.any_eq_true]
    exact ⟨_, gc_mem l k hx.1, decide_eq_true hx.2⟩
  · rw [decide_eq_false hx]
    rw [List.any_eq_false]
    intro x hxm
    obtain ⟨j, hj, rfl⟩ := List.getElem_of_mem hxm
    rw [← gc_get l j hj]
    simp only [decide_eq_true_eq]
    intro he
    rcases Nat.lt_trichotomy j k with h4 | h4 | h4
    · have := h1 j h4; omega
    · subst h4; exact hx ⟨hj, he⟩
    · have h5 := h2 k (Nat.le_refl _) (by omega)
      have h6 := asc_gc h h4 hj
      omega
theorem pos_le (l : List Dc) (id : Int) : posD l id ≤ l.length := List.length_filter_le _ _
/-- A number that is there is at its place. -/
theorem asc_pos {l : List Dc} (h : Asc l) (id : Int) : (∀ t, t < posD l id → (gc l t).id < id) ∧ (∀ t, posD l id ≤ t → t < l.length → id ≤ (gc l t).id) := by
  have hex : ∃ k, k ≤ l.length ∧ (∀ t, t < k → (gc l t).id < id) ∧ (∀ t, k ≤ t → t < l.length → id ≤ (gc l t).id) := by
    have h0 : ∀ n, n ≤ l.length → ∃ k, k ≤ n ∧ (∀ t, t < k → (gc l t).id < id) ∧ (∀ t, k ≤ t → t < n → id ≤ (gc l t).id) := by
      intro n
      induction n with
      | zero => exact fun _ => ⟨0, Nat.le_refl _, fun t ht => absurd ht (by omega), fun t _ ht => absurd ht (by omega)⟩
      | succ n ih =>
        intro hn
        obtain ⟨k, k1, k2, k3⟩ := ih (by omega)
        by_cases hk : k = n
        · subst hk
          by_cases hx : (gc l k).id < id
          · exact ⟨k + 1, by omega, fun t ht => by
              rcases Nat.lt_or_ge t k with h4 | h4
              · exact k2 t h4
              · obtain rfl : t = k := by omega
                exact hx, fun t h4 h5 => absurd h5 (by omega)⟩
          · exact ⟨k, by omega, k2, fun t h4 h5 => by
              obtain rfl : t = k := by omega
              omega⟩
        · refine ⟨k, by omega, k2, fun t h4 h5 => ?_⟩
          rcases Nat.lt_or_ge t n with h6 | h6
          · exact k3 t h4 h6
          · obtain rfl : t = n := by omega
            have h7 := k3 k (Nat.le_refl _) (by omega)
            have h8 := asc_gc h (show k < t by omega) (by omega)
            omega
    exact h0 l.length (Nat.le_refl _)
  obtain ⟨k, k1, k2, k3⟩ := hex
  have h9 := (pos_at h id k k1 k2 k3).1
  rw [h9]
  exact ⟨k2, k3⟩

set_option maxHeartbeats 1000000 in
theorem hsearch_any (l : List Dc) (id : Int) (B : Nat) (v : Value) (w : World) (h : Rw B w 42 6 v l.length (hcells l)) (hs : Asc l) (hl : l.length < 1000000000000) :
    Calls Tryd.prog 24 #[v, .int .i64 id, .func (.func 25) #[] #[]] w fun r w' => r = .returned (.tuple #[.int .i64 (posD l id : Nat), .bool (hasD l id)]) ∧ Below w.heap.size w w' := by
  obtain ⟨A, cap, rfl, hlc, hcm, hA⟩ := rw_docs h
  have HS := hid_mk hs
  clear hs
  go_enter Tryd.func24, Tryd.ntmps24
  go_wp2_with fail
  go_loopw [9, 10] (fun i j wr => ∃ lo hi : Nat, i = .int .i64 lo ∧ j = .int .i64 hi ∧ lo ≤ hi ∧ hi ≤ l.length ∧ Hid (∀ t, t < lo → (gc l t).id < id) ∧ Hid (∀ t, hi ≤ t → t < l.length → id ≤ (gc l t).id) ∧ Below w.heap.size w wr) (fun i j _ => (intOf j - intOf i).toNat)
  case atStart => exact ⟨0, l.length, rfl, rfl, Nat.zero_le _, Nat.le_refl _, fun t ht => absurd ht (by omega), fun t h1 h2 => absurd h2 (by omega), Below.refl _ _⟩
  case round =>
    obtain ⟨lo, hi, rfl, rfl, hlh, hhl, H1, H2, hb⟩ := hrel
    by_cases hlt : lo < hi
    · obtain ⟨g, rfl, hg, hc⟩ := hA (by omega)
      obtain ⟨m, hm⟩ : ∃ m, m = (lo + hi) / 2 := ⟨_, rfl⟩
      have hm1 : lo ≤ m := by omega
      have hm2 : m < hi := by omega
      have hmI : ((lo : Int) + (hi : Int)) / 2 = (m : Int) := by omega
      obtain ⟨x, hx⟩ : ∃ x, x = gc l m := ⟨_, rfl⟩
      have cc := (hc m (by omega)).keep hg hb
      rw [← hx] at cc
      have HX := hid_mk hx
      obtain ⟨xi, xk, xj, xt, xl, xf⟩ := x
      obtain ⟨d0, d1, d2, d3, d4, d5⟩ := cc
      simp only [Sl.v] at d0 d1 d2 d3 d4 d5
      have m0 : (0 : Int) ≤ (m : Int) := by omega
      have m1 : (m : Int) < (l.length : Int) := by omega
      clear hc hA h hm hx
      go_wp2_with fail
      refine (doccmp_any ⟨xi, ⟨xk, xj, xt, xl, xf⟩⟩ id _).mono ?_
      rintro r w1 ⟨rfl, b1⟩
      have hb1 := hb.trans (b1.mono hb.size)
      obtain ⟨s, hs⟩ : ∃ s, s = sgn xi id := ⟨_, rfl⟩
      simp only
      rw [← hs]
      by_cases hq : s < 0
      · have HQ : Hid ((gc l m).id < id) := hid_mk (by rw [← HX.out]; rw [hs, sgn_lt] at hq; exact hq)
        clear hs
        go_wp2_with fail
        exact ⟨⟨m + 1, hi, by go_num, rfl, by omega, hhl, fun t ht => by
          rcases Nat.lt_or_ge t m with h1 | h1
          · have h9 := asc_gc HS.out h1 (by omega)
            have := HQ.out; omega
          · obtain rfl : t = m := by omega
            exact HQ.out, H2, hb1⟩, by simp [intOf]; omega⟩
      · have HQ : Hid (id ≤ (gc l m).id) := hid_mk (by rw [← HX.out]; have h9 : ¬ xi < id := fun h9 => hq (by rw [hs, sgn_lt]; exact h9); exact Int.not_lt.1 h9)
        clear hs
        go_wp2_with fail
        exact ⟨⟨lo, m, rfl, rfl, by omega, by omega, H1, fun t ht htl => by
          rcases Nat.lt_or_ge m t with h1 | h1
          · have h9 := asc_gc HS.out h1 htl
            have := HQ.out; omega
          · obtain rfl : t = m := by omega
            exact HQ.out, hb1⟩, by simp [intOf]; omega⟩
    · obtain rfl : hi = lo := by omega
      have HP := hid_mk (pos_at HS.out id hi hhl H1.out H2.out)
      by_cases hn : hi < l.length
      · obtain ⟨g, rfl, hg, hc⟩ := hA (by omega)
        obtain ⟨x, hx⟩ : ∃ x, x = gc l hi := ⟨_, rfl⟩
        have cc := (hc hi hn).keep hg hb
        rw [← hx] at cc
        have HX := hid_mk hx
        obtain ⟨xi, xk, xj, xt, xl, xf⟩ := x
        obtain ⟨d0, d1, d2, d3, d4, d5⟩ := cc
        simp only [Sl.v] at d0 d1 d2 d3 d4 d5
        have m0 : (0 : Int) ≤ (hi : Int) := by omega
        have m1 : (hi : Int) < (l.length : Int) := by omega
        clear hc hA h hx
        go_wp2_with fail
        refine (doccmp_any ⟨xi, ⟨xk, xj, xt, xl, xf⟩⟩ id _).mono ?_
        rintro r w1 ⟨rfl, b1⟩
        have hb1 := hb.trans (b1.mono hb.size)
        have HB : Hid ((sgn xi id == 0) = hasD l id) := hid_mk (by
          rw [HP.out.2, ← HX.out]
          have h9 : (sgn xi id = 0) = (xi = id) := sgn_eq xi id
          by_cases h8 : xi = id
          · rw [decide_eq_true (show hi < l.length ∧ xi = id from ⟨hn, h8⟩), h9.mpr h8]; rfl
          · rw [decide_eq_false (show ¬ (hi < l.length ∧ xi = id) from fun h7 => h8 h7.2)]
            exact beq_eq_false_iff_ne.2 fun h7 => h8 (h9.mp h7))
        go_wp2_with fail
        go_ret2
        exact ⟨ret_pair (a := (hi : Int)) (by rw [HP.out.1]) HB.out, hb1⟩
      · have HB : Hid (hasD l id = false) := hid_mk (by rw [HP.out.2]; exact decide_eq_false fun h9 => hn h9.1)
        go_wp2_with fail
        go_ret2
        exact ⟨ret_pair (a := (hi : Int)) (by rw [HP.out.1]) HB.out.symm, hb⟩

theorem hfind_any (B p : Nat) (ds : List Dc) (last id : Int) (F : Nat → Prop) (w : World) (H : Hp B w p ds last F) (hs : Asc ds) (hl : ds.length < 1000000000000) :
    Calls Tryd.prog 20 #[.pointer (some ⟨p, 0, none⟩), .int .i64 id] w fun r w' => r = .returned (.tuple #[.int .i64 (posD ds id : Nat), .bool (hasD ds id)]) ∧ Below w.heap.size w w' := by
  obtain ⟨v, h1, h2, h3, rfl⟩ := H
  obtain ⟨A, cap, rfl, hc, hm, _⟩ := rw_docs h3
  have c0 := (cell_of_row w p 0 _ _ _ h1).trans rfl
  go_enter Tryd.func20, Tryd.ntmps20
  go_wp2_with fail
  refine (hsearch_any ds id B _ _ h3 hs hl).mono ?_
  rintro r w1 ⟨rfl, b1⟩
  go_wp2_with fail
  go_ret2
  exact ⟨rfl, b1⟩

end Go.Proofs.YtlehgmfpblifkaaDoor
