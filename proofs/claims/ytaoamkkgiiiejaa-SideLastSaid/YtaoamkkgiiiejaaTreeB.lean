/- An entry found in a row of them, and in a node. -/
import Derived.Test.YtaoamkkgiiiejaaTreeA
import Derived.Deep.LoopGhost
namespace Go.Proofs.Ytaoamkkgiiiejaa
open Go.RowKit
set_option linter.unusedVariables false
attribute [local go_sem ↓] Go.wp_at_zero Go.wp_at_succ

def ecells (l : List E) : List Value := l.flatMap fun e => [.string e.key, .int .i64 e.id]
def ge (l : List E) (i : Nat) : E := l.getD i ⟨⟨#[]⟩, 0⟩
theorem ge_get (l : List E) (i : Nat) (h : i < l.length) : ge l i = l[i] := by
  unfold ge; rw [List.getD_eq_getElem?_getD, List.getElem?_eq_getElem h]; rfl
theorem ge_mem (l : List E) (i : Nat) (h : i < l.length) : ge l i ∈ l := by rw [ge_get l i h]; exact List.getElem_mem h
theorem ecells_length (l : List E) : (ecells l).length = l.length * 2 := by
  induction l with
  | nil => rfl
  | cons x l ih => unfold ecells at ih ⊢; rw [List.flatMap_cons, List.length_append, ih, List.length_cons]; simp; omega
theorem ecells_append (a b : List E) : ecells (a ++ b) = ecells a ++ ecells b := by unfold ecells; exact List.flatMap_append ..
theorem ecells_cons (a : E) (b : List E) : ecells (a :: b) = [.string a.key, .int .i64 a.id] ++ ecells b := rfl
theorem ecells_take (l : List E) (k : Nat) : (ecells l).take (k * 2) = ecells (l.take k) := by
  induction l generalizing k with
  | nil => simp [ecells]
  | cons x l ih =>
    rcases k with _ | k
    · simp [ecells]
    · rw [List.take_succ_cons, ecells_cons, ecells_cons, ← ih k, show (k + 1) * 2 = k * 2 + 2 by omega]; rfl
theorem ecells_drop (l : List E) (k : Nat) : (ecells l).drop (k * 2) = ecells (l.drop k) := by
  induction l generalizing k with
  | nil => simp [ecells]
  | cons x l ih =>
    rcases k with _ | k
    · simp [ecells]
    · rw [List.drop_succ_cons, ecells_cons, ← ih k, show (k + 1) * 2 = k * 2 + 2 by omega]; rfl
theorem ecells_get (l : List E) (i : Nat) (h : i < l.length) : (ecells l)[i * 2]? = some (.string (ge l i).key) ∧ (ecells l)[i * 2 + 1]? = some (.int .i64 (ge l i).id) := by
  have h1 : (ecells l).drop (i * 2) = ecells (ge l i :: l.drop (i + 1)) := by rw [ecells_drop, List.drop_eq_getElem_cons h, ge_get l i h]
  have h2 : ∀ j, (ecells l)[i * 2 + j]? = ((ecells l).drop (i * 2))[j]? := fun j => by rw [List.getElem?_drop]
  exact ⟨(h2 0).trans (by rw [h1]; rfl), (h2 1).trans (by rw [h1]; rfl)⟩
theorem ecells_one (l : List E) : ∀ u ∈ ecells l, u.oneCell' = true := by
  intro u hu
  unfold ecells at hu
  obtain ⟨x, _, hx⟩ := List.mem_flatMap.1 hu
  simp at hx
  rcases hx with rfl | rfl <;> rfl

theorem srt_ge {l : List E} (h : Srt l) {i j : Nat} (hij : i < j) (hj : j < l.length) : lt (ge l i) (ge l j) := by
  rw [ge_get l i (by omega), ge_get l j hj]
  exact List.pairwise_iff_getElem.1 h i j _ _ hij
theorem pos_eq {l : List E} (h : Srt l) (e : E) (k : Nat) (hk : k ≤ l.length) (h1 : ∀ t, t < k → lt (ge l t) e) (h2 : ∀ t, k ≤ t → t < l.length → ¬ lt (ge l t) e) :
    (below e l).length = k ∧ (e ∈ l ↔ k < l.length ∧ ge l k = e) := by
  have hb : below e l = l.take k := by
    have h3 : l = l.take k ++ l.drop k := (List.take_append_drop k l).symm
    have h4 : below e (l.take k) = l.take k := below_all fun x hx => by
      obtain ⟨j, hj, rfl⟩ := List.getElem_of_mem hx
      have hj2 : j < k := by rw [List.length_take] at hj; omega
      rw [List.getElem_take, ← ge_get l j (by omega)]
      exact h1 j hj2
    have h5 : below e (l.drop k) = [] := by
      unfold below
      rw [List.filter_eq_nil_iff]
      intro x hx hd
      obtain ⟨j, hj, rfl⟩ := List.getElem_of_mem hx
      rw [List.length_drop] at hj
      rw [List.getElem_drop, ← ge_get l (k + j) (by omega)] at hd
      exact h2 (k + j) (by omega) (by omega) (of_decide_eq_true hd)
    calc below e l = below e (l.take k ++ l.drop k) := by rw [List.take_append_drop]
      _ = l.take k := by rw [below_append, h4, h5, List.append_nil]
  have hl : (below e l).length = k := by rw [hb, List.length_take]; omega
  refine ⟨hl, fun he => ?_, fun ⟨h3, h4⟩ => h4 ▸ ge_mem l k h3⟩
  have h3 := srt_mem h he
  have h4 : l[k]? = some e := by
    rw [h3, List.getElem?_append_right (by omega), hl]
    simp
  have h5 := (List.getElem?_eq_some_iff.1 h4).1
  refine ⟨h5, ?_⟩
  rw [ge_get l k h5]
  exact (List.getElem?_eq_some_iff.1 h4).2

/-- The cells of a row of entries. -/
theorem rw_ents {B : Nat} {w : World} {T : TypeId} {v : Value} {l : List E} (h : Rw B w T 2 v l.length (ecells l)) : ∃ A cap, v = .slice A l.length cap ∧ l.length ≤ cap ∧ cap ≤ 9223372036854775807 ∧
    (0 < l.length → ∃ g, A = some ⟨g, 0, none⟩ ∧ g < w.heap.size ∧ ∀ i, i < l.length → w.cell? ⟨g, i * 2, none⟩ = some (.string (ge l i).key) ∧ w.cell? ⟨g, i * 2 + 1, none⟩ = some (.int .i64 (ge l i).id)) := by
  obtain ⟨A, cap, rfl, h1, h2, h3, h4⟩ := h.shape
  refine ⟨A, cap, rfl, h1, h2, fun h0 => ?_⟩
  rcases A with _ | a
  · have := (h3 rfl).1; omega
  · obtain ⟨g, rfl, _, hg, _, hc⟩ := h4 a rfl
    exact ⟨g, rfl, hg, fun i hi => ⟨hc _ _ (ecells_get l i hi).1, hc _ _ (ecells_get l i hi).2⟩⟩

theorem keep_cell {W w1 : World} (hb : Below W.heap.size W w1) {a : Addr} {v : Value} (h : W.cell? a = some v) : w1.cell? a = some v := (hb.cell (World.block_lt_of_cell? W a h)).trans h
theorem ret_pair {a b : Int} {x y : Bool} (h : a = b) (h' : x = y) : Ending.returned (.tuple #[.int .i64 a, .bool x]) = .returned (.tuple #[.int .i64 b, .bool y]) := by rw [h, h']

set_option maxHeartbeats 1000000 in
theorem search_any (l : List E) (e : E) (B : Nat) (v : Value) (w : World) (h : Rw B w 36 2 v l.length (ecells l)) (hs : Srt l) (hl : l.length < 1000000000000) :
    Calls Try.prog 35 #[v, .agg #[.string e.key, .int .i64 e.id], .func (.func 36) #[] #[]] w fun r w' => r = .returned (.tuple #[.int .i64 ((below e l).length : Nat), .bool (decide (e ∈ l))]) ∧ Below w.heap.size w w' := by
  obtain ⟨A, cap, rfl, hlc, hcm, hA⟩ := rw_ents h
  have HS := hid_mk hs
  clear hs
  go_enter Try.func35, Try.ntmps35
  go_wp2_with fail
  obtain ⟨w0, hw0⟩ : ∃ w0, w0 = w.alloc (.cells #[.string e.key, .int .i64 e.id] 36) := ⟨_, rfl⟩
  rw [← hw0]
  have b0 : Below w.heap.size w w0 := by rw [hw0]; exact balloc _
  have hbox : w0.heap[w.heap.size]? = some (.cells #[.string e.key, .int .i64 e.id] 36 (0, 0)) := by rw [hw0]; exact heap_alloc_new w _
  have hsz := lt_of_block hbox
  clear hw0
  go_loopw [9, 10] (fun i j wr => ∃ lo hi : Nat, i = .int .i64 lo ∧ j = .int .i64 hi ∧ lo ≤ hi ∧ hi ≤ l.length ∧ Hid (∀ t, t < lo → lt (ge l t) e) ∧ Hid (∀ t, hi ≤ t → t < l.length → ¬ lt (ge l t) e) ∧ Below w0.heap.size w0 wr) (fun i j _ => (intOf j - intOf i).toNat)
  case atStart => exact ⟨0, l.length, rfl, rfl, Nat.zero_le _, Nat.le_refl _, fun t ht => absurd ht (by omega), fun t h1 h2 => absurd h2 (by omega), Below.refl _ _⟩
  case round =>
    obtain ⟨lo, hi, rfl, rfl, hlh, hhl, H1, H2, hb⟩ := hrel
    by_cases hlt : lo < hi
    · obtain ⟨g, rfl, hg, hc⟩ := hA (by omega)
      obtain ⟨m, hm⟩ : ∃ m, m = (lo + hi) / 2 := ⟨_, rfl⟩
      have hm1 : lo ≤ m := by omega
      have hm2 : m < hi := by omega
      have hmI : ((lo : Int) + (hi : Int)) / 2 = (m : Int) := by omega
      obtain ⟨c0, c1⟩ := hc m (by omega)
      have d0 := (hb.cell (p := ⟨g, m * 2, none⟩) (Nat.lt_of_lt_of_le hg b0.size)).trans ((b0.cell (p := ⟨g, m * 2, none⟩) hg).trans c0)
      have d1 := (hb.cell (p := ⟨g, m * 2 + 1, none⟩) (Nat.lt_of_lt_of_le hg b0.size)).trans ((b0.cell (p := ⟨g, m * 2 + 1, none⟩) hg).trans c1)
      have e0 := (hb.cell (p := ⟨w.heap.size, 0, none⟩) hsz).trans (cell_of_row w0 _ 0 _ _ _ hbox)
      have e1 := (hb.cell (p := ⟨w.heap.size, 1, none⟩) hsz).trans (cell_of_row w0 _ 1 _ _ _ hbox)
      have m0 : (0 : Int) ≤ (m : Int) := by omega
      have m1 : (m : Int) < (l.length : Int) := by omega
      clear hc hA h c0 c1 hm
      go_wp2_with fail
      by_cases hq : cmpE (ge l m) e < 0
      · have HQ := hid_mk (show lt (ge l m) e from hq)
        go_region_held3 (fun w' => w'.cell? ⟨g, m * 2, none⟩ = some (.string (ge l m).key) ∧ w'.cell? ⟨g, m * 2 + 1, none⟩ = some (.int .i64 (ge l m).id) ∧ w'.cell? ⟨w.heap.size, 0, none⟩ = some (.string e.key) ∧ w'.cell? ⟨w.heap.size, 1, none⟩ = some (.int .i64 e.id)) ((first | go_keep | (go_split_ands; refine ⟨?_, ?_, ?_, ?_⟩ <;> exact keep_cell b1 (by assumption))))
          ((go_at_call 36; refine (order_any (ge l m) e _).mono ?_; rintro r w1 ⟨rfl, b1⟩))
        go_wp2_with fail
        exact ⟨⟨m + 1, hi, by go_num, rfl, by omega, hhl, fun t ht => by
          rcases Nat.lt_or_ge t m with h1 | h1
          · exact lt_trans (srt_ge HS.out h1 (by omega)) HQ.out
          · obtain rfl : t = m := by omega
            exact HQ.out, H2, (pw_below (n := 1) hb).trans (b1.mono (by have := hb.size; simpa using this))⟩, by simp [intOf]; omega⟩
      · have HQ := hid_mk (show ¬ lt (ge l m) e from hq)
        go_region_held3 (fun w' => w'.cell? ⟨g, m * 2, none⟩ = some (.string (ge l m).key) ∧ w'.cell? ⟨g, m * 2 + 1, none⟩ = some (.int .i64 (ge l m).id) ∧ w'.cell? ⟨w.heap.size, 0, none⟩ = some (.string e.key) ∧ w'.cell? ⟨w.heap.size, 1, none⟩ = some (.int .i64 e.id)) ((first | go_keep | (go_split_ands; refine ⟨?_, ?_, ?_, ?_⟩ <;> exact keep_cell b1 (by assumption))))
          ((go_at_call 36; refine (order_any (ge l m) e _).mono ?_; rintro r w1 ⟨rfl, b1⟩))
        go_wp2_with fail
        exact ⟨⟨lo, m, rfl, rfl, by omega, by omega, H1, fun t ht htl => by
          rcases Nat.lt_or_ge m t with h1 | h1
          · exact fun h2 => HQ.out (lt_trans (srt_ge HS.out h1 htl) h2)
          · obtain rfl : t = m := by omega
            exact HQ.out, (pw_below (n := 1) hb).trans (b1.mono (by have := hb.size; simpa using this))⟩, by simp [intOf]; omega⟩
    · obtain rfl : hi = lo := by omega
      have HP := hid_mk (pos_eq HS.out e hi hhl H1.out H2.out)
      by_cases hn : hi < l.length
      · obtain ⟨g, rfl, hg, hc⟩ := hA (by omega)
        obtain ⟨c0, c1⟩ := hc hi (by omega)
        have d0 := (hb.cell (p := ⟨g, hi * 2, none⟩) (Nat.lt_of_lt_of_le hg b0.size)).trans ((b0.cell (p := ⟨g, hi * 2, none⟩) hg).trans c0)
        have d1 := (hb.cell (p := ⟨g, hi * 2 + 1, none⟩) (Nat.lt_of_lt_of_le hg b0.size)).trans ((b0.cell (p := ⟨g, hi * 2 + 1, none⟩) hg).trans c1)
        have e0 := (hb.cell (p := ⟨w.heap.size, 0, none⟩) hsz).trans (cell_of_row w0 _ 0 _ _ _ hbox)
        have e1 := (hb.cell (p := ⟨w.heap.size, 1, none⟩) hsz).trans (cell_of_row w0 _ 1 _ _ _ hbox)
        have m0 : (0 : Int) ≤ (hi : Int) := by omega
        have m1 : (hi : Int) < (l.length : Int) := by omega
        clear hc hA h c0 c1
        go_wp2_with fail
        go_region_held3 (fun w' => w'.cell? ⟨g, hi * 2, none⟩ = some (.string (ge l hi).key) ∧ w'.cell? ⟨g, hi * 2 + 1, none⟩ = some (.int .i64 (ge l hi).id) ∧ w'.cell? ⟨w.heap.size, 0, none⟩ = some (.string e.key) ∧ w'.cell? ⟨w.heap.size, 1, none⟩ = some (.int .i64 e.id)) ((first | go_keep | (go_split_ands; refine ⟨?_, ?_, ?_, ?_⟩ <;> exact keep_cell b1 (by assumption))))
          ((go_at_call 36; refine (order_any (ge l hi) e _).mono ?_; rintro r w1 ⟨rfl, b1⟩))
        go_wp2_with fail
        go_ret2
        exact ⟨ret_pair (x := decide (cmpE (ge l hi) e = 0)) (by rw [HP.out.1]) (by
          rw [decide_eq_decide, HP.out.2]
          exact ⟨fun h => ⟨hn, cmpE_zero _ _ h⟩, fun h => by rw [h.2]; exact cmpE_self e⟩), b0.trans (((pw_below (n := 1) hb).trans (b1.mono (by have := hb.size; simpa using this))).mono b0.size)⟩
      · go_wp2_with fail
        go_quiet (fail)
        go_wp2_with fail
        go_ret2
        exact ⟨ret_pair (x := false) (by rw [HP.out.1]) (by
          symm
          rw [decide_eq_false_iff_not, HP.out.2]
          exact fun h => hn h.1), b0.trans ((pw_below hb).mono b0.size)⟩

/-- Where an entry is in a node, or would be. -/
theorem find_any (l : List E) (e : E) (B a : Nat) (v : Value) (w : World) (hc : w.cell? ⟨a, 0, none⟩ = some v) (h : Rw B w 36 2 v l.length (ecells l)) (hs : Srt l) (hl : l.length < 1000000000000) :
    Calls Try.prog 26 #[.pointer (some ⟨a, 0, none⟩), .agg #[.string e.key, .int .i64 e.id]] w fun r w' => r = .returned (.tuple #[.int .i64 ((below e l).length : Nat), .bool (decide (e ∈ l))]) ∧ Below w.heap.size w w' := by
  have hlt := World.block_lt_of_cell? w _ hc
  have hne := World.new_ne w ⟨a, 0, none⟩ hc
  have HS := hid_mk hs
  obtain ⟨A, cap, rfl, _, _, _⟩ := h.shape
  have h2 : Rw B (w.alloc (.cells #[.string e.key, .int .i64 e.id] 36)).drew 36 2 (.slice A l.length cap) l.length (ecells l) := h.below (pw_below (n := 1) (balloc (.cells #[.string e.key, .int .i64 e.id] 36)))
  clear hs
  go_enter Try.func26, Try.ntmps26
  go_wp2_with fail
  go_region_held3 (fun w' => w'.cell? ⟨a, 0, none⟩ = some (.slice A l.length cap) ∧ w'.cell? ⟨w.heap.size, 0, none⟩ = some (.string e.key) ∧ w'.cell? ⟨w.heap.size, 1, none⟩ = some (.int .i64 e.id)) ((first | go_keep | (go_split_ands; refine ⟨?_, ?_, ?_⟩ <;> exact keep_cell b1 (by assumption))))
    ((go_at_call 35; refine (search_any l e B _ _ h2 HS.out hl).mono ?_; rintro r w1 ⟨rfl, b1⟩))
  go_wp2_with fail
  go_ret2
  exact ⟨rfl, (pw_below (n := 1) (balloc (.cells #[.string e.key, .int .i64 e.id] 36))).trans (b1.mono (by show w.heap.size ≤ (w.alloc _).heap.size; simp))⟩

theorem leaf_any (a n cap : Nat) (A : Option Addr) (w : World) (hc : w.cell? ⟨a, 1, none⟩ = some (.slice A n cap)) :
    Calls Try.prog 27 #[.pointer (some ⟨a, 0, none⟩)] w fun r w' => r = .returned (.bool (decide (n = 0))) ∧ w = w' := by
  have hb : ((n : Int) == 0) = decide (n = 0) := by
    rw [Bool.eq_iff_iff]; simp
  by_cases h0 : n = 0
  · subst h0
    go_enter Try.func27, Try.ntmps27
    go_wp2_with fail
    go_ret
    exact ⟨rfl, rfl⟩
  · have h1 : decide (n = 0) = false := decide_eq_false h0
    have HX := hid_mk h1
    have hb2 : ((n : Int) == 0) = false := by simpa using h0
    clear h1 hb
    go_enter Try.func27, Try.ntmps27
    go_wp2_with fail
    go_ret
    exact ⟨by rw [HX.out]; first | rfl | simp [h0], rfl⟩

end Go.Proofs.Ytaoamkkgiiiejaa
