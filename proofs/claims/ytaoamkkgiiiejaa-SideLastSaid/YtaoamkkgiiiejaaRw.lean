/- Rows that a call owns, of whatever element type, whose capacity may be less than their block holds. -/
import Derived.Test.YtaoamkkgiiiejaaMv
namespace Go.Proofs.Ytaoamkkgiiiejaa
open Go.RowKit
set_option linter.unusedVariables false

/-- The slice v has n elements of type e (size cells each), the cells xs, at the head of a block from B on. -/
def Rw (B : Nat) (w : World) (e : TypeId) (size : Nat) (v : Value) (n : Nat) (xs : List Value) : Prop :=
  xs.length = n * size ∧ ((v = .slice none 0 0 ∧ n = 0) ∨
    ∃ g cap cur, v = .slice (some ⟨g, 0, none⟩) n cap ∧ B ≤ g ∧ w.heap[g]? = some (.cells cur e (0, 0)) ∧ n ≤ cap ∧ cap ≤ maxLen ∧ cap * size ≤ cur.size ∧ cur.toList.take (n * size) = xs)

section
variable {B : Nat} {w w' : World} {e : TypeId} {size n : Nat} {v : Value} {xs : List Value}

theorem Rw.nil (B : Nat) (w : World) (e : TypeId) (size : Nat) : Rw B w e size (.slice none 0 0) 0 [] := ⟨by simp, .inl ⟨rfl, rfl⟩⟩
theorem Rw.of_owns (h : w.ownsRow B e size v n xs) : Rw B w e size v n xs := by
  refine ⟨h.1, ?_⟩
  rcases h.2 with h2 | ⟨g, cap, cur, hv, hb, hg, hnc, hcm, hcs, ht⟩
  · exact .inl h2
  · exact .inr ⟨g, cap, cur, hv, hb, hg, hnc, hcm, by omega, ht⟩
theorem Rw.hasT (h : Rw B w e size v n xs) (k : Nat) (hk : v.ownBlock = some k) : B ≤ k ∧ k < w.heap.size ∧ HasT w k e := by
  rcases h.2 with ⟨rfl, _⟩ | ⟨g, cap, cur, rfl, hb, hg, _⟩
  · simp [Value.ownBlock] at hk
  · have e : g = k := by simpa [Value.ownBlock] using hk
    subst e
    exact ⟨hb, lt_of_block hg, cur, _, hg⟩
theorem Rw.lt (h : Rw B w e size v n xs) (k : Nat) (hk : v.ownBlock = some k) : B ≤ k ∧ k < w.heap.size := ⟨(h.hasT k hk).1, (h.hasT k hk).2.1⟩
theorem Rw.ne (h : Rw B w e size v n xs) {p : Nat} {cs : Array Value} {T : TypeId} {fr : Nat × Nat} (hb : w.heap[p]? = some (.cells cs T fr)) (hT : e ≠ T) : v.ownBlock ≠ some p := by
  intro hk
  obtain ⟨_, _, cs', fr', hb'⟩ := h.hasT p hk
  rw [hb] at hb'
  injection hb' with hb'
  injection hb' with _ e'
  exact hT e'.symm
theorem Mv.rw_ {F F' : Nat → Prop} (h : Mv F F' w w') (ho : Rw B w e size v n xs) (ha : Apart v F) : Rw B w' e size v n xs := by
  refine ⟨ho.1, ?_⟩
  rcases ho.2 with h2 | ⟨g, cap, cur, rfl, hb, hg, r⟩
  · exact .inl h2
  · exact .inr ⟨g, cap, cur, rfl, hb, h.at_ hg (ha g rfl), r⟩
/-- A row stays where its block does. -/
theorem Rw.stays (h : Rw B w e size v n xs) (hb : ∀ k, v.ownBlock = some k → w'.heap[k]? = w.heap[k]?) : Rw B w' e size v n xs := by
  refine ⟨h.1, ?_⟩
  rcases h.2 with h2 | ⟨g, cap, cur, rfl, hB, hg, r⟩
  · exact .inl h2
  · exact .inr ⟨g, cap, cur, rfl, hB, (hb g rfl).trans hg, r⟩
theorem Rw.below (h : Rw B w e size v n xs) (hb : Below w.heap.size w w') : Rw B w' e size v n xs := h.stays fun k hk => hb.block k (h.lt k hk).2
theorem Rw.base {C : Nat} (h : Rw C w e size v n xs) (hB : B ≤ C) : Rw B w e size v n xs := by
  refine ⟨h.1, ?_⟩
  rcases h.2 with h2 | ⟨g, cap, cur, rfl, hb, r⟩
  · exact .inl h2
  · exact .inr ⟨g, cap, cur, rfl, Nat.le_trans hB hb, r⟩
/-- A row's shape, and its cells. -/
theorem Rw.shape (h : Rw B w e size v n xs) : ∃ A cap, v = .slice A n cap ∧ n ≤ cap ∧ cap ≤ 9223372036854775807 ∧ (A = none → n = 0 ∧ cap = 0 ∧ xs = []) ∧
    (∀ a, A = some a → ∃ g, a = ⟨g, 0, none⟩ ∧ B ≤ g ∧ g < w.heap.size ∧ (∃ cur, w.heap[g]? = some (.cells cur e (0, 0)) ∧ cap * size ≤ cur.size) ∧ ∀ j u, xs[j]? = some u → w.cell? ⟨g, j, none⟩ = some u) := by
  rcases h.2 with ⟨rfl, rfl⟩ | ⟨g, cap, cur, rfl, hb, hg, hnc, hcm, hcs, ht⟩
  · refine ⟨none, 0, rfl, Nat.le_refl _, by omega, fun _ => ⟨rfl, rfl, List.eq_nil_of_length_eq_zero (by simpa using h.1)⟩, fun a ha => by cases ha⟩
  · refine ⟨_, cap, rfl, hnc, by simp only [maxLen] at hcm; omega, (fun h => by cases h), fun a ha => ?_⟩
    injection ha with ha
    subst ha
    refine ⟨g, rfl, hb, lt_of_block hg, ⟨cur, hg, hcs⟩, fun j u hu => ?_⟩
    rw [cell_of_row w g j _ _ _ hg, ← Array.getElem?_toList]
    rw [← ht, List.getElem?_take] at hu
    split at hu
    · exact hu
    · cases hu

/-- The first k elements, with whatever capacity in between. -/
theorem Rw.prefix_ {g cap : Nat} (h : Rw B w e size (.slice (some ⟨g, 0, none⟩) n cap) n xs) (k c : Nat) (hk : k ≤ n) (hkc : k ≤ c) (hc : c ≤ cap) : Rw B w e size (.slice (some ⟨g, 0, none⟩) k c) k (xs.take (k * size)) := by
  have hle : k * size ≤ n * size := Nat.mul_le_mul_right _ hk
  rcases h.2 with ⟨h', _⟩ | ⟨g', cap', cur, h', hb, hg, hnc, hcm, hcs, htake⟩
  · simp at h'
  · simp only [Value.slice.injEq, Option.some.injEq, Addr.mk.injEq, and_true, true_and] at h'
    obtain ⟨rfl, rfl⟩ := h'
    refine ⟨by rw [List.length_take, h.1]; omega, .inr ⟨g, c, cur, rfl, hb, hg, hkc, by omega, Nat.le_trans (Nat.mul_le_mul_right _ hc) hcs, ?_⟩⟩
    rw [← htake, List.take_take, Nat.min_eq_left hle]

/-- A cell of a row, stored anew. -/
theorem Rw.setCell_ {g cap : Nat} (h : Rw B w e size (.slice (some ⟨g, 0, none⟩) n cap) n xs) (j : Nat) (u : Value) (hj : j < n * size) : Rw B (w.setCell ⟨g, j, none⟩ u) e size (.slice (some ⟨g, 0, none⟩) n cap) n (xs.set j u) := by
  refine ⟨by rw [List.length_set]; exact h.1, ?_⟩
  rcases h.2 with ⟨h', _⟩ | ⟨g', cap', cur, h', hb, hg, hnc, hcm, hcs, htake⟩
  · simp at h'
  · simp only [Value.slice.injEq, Option.some.injEq, Addr.mk.injEq, and_true, true_and] at h'
    obtain ⟨rfl, rfl⟩ := h'
    have hjc : j < cur.size := by
      have := Nat.mul_le_mul_right size hnc
      omega
    refine .inr ⟨g, cap, _, rfl, hb, block_setCell hg j u hjc, hnc, hcm, by simpa using hcs, ?_⟩
    rw [Array.toList_set, ← htake, List.take_set]
theorem Rw.setCell_other (h : Rw B w e size v n xs) (a : Addr) (u : Value) (ha : v.ownBlock ≠ some a.block) : Rw B (w.setCell a u) e size v n xs :=
  h.stays fun k hk => heap_setCell_other w a k u fun e => ha (e ▸ hk)
end

theorem arr_app (l : List Value) (A : Array Value) : (l ++ A.toList).toArray = l.toArray ++ A := by apply Array.ext'; simp

section
variable {P : Program} {B : Nat} {w : World} {e : TypeId} {size n : Nat} {v : Value} {xs : List Value}

/-- append(v, y...): y's cells are known. -/
theorem run_app_rw (h : Rw B w e size v n xs) (hB : B ≤ w.heap.size) (t ty : TypeId) (i0 : TypeInfo) (z : Value) (bytes : Nat) (ht : P.underlying t = some (.slice e)) (hi : P.info? e = some i0) (hz : i0.zero = some z) (hsize : i0.size = size) (hby : i0.bytes = bytes)
    (hzs : z.cells.size = size) (hsz : 0 < size) (A : Addr) (m c : Nat) (hm : 0 < m) (ys : List Value) (hl : ys.length = m * size) (hys : ∀ j u, ys[j]? = some u → w.cell? (A.add j) = some u) (h1 : ∀ u ∈ ys, u.oneCell' = true)
    (hbig : (n + m) * bytes ≤ 140737488355328) (hn : n + m ≤ 140737488355328) :
    ∃ v' w', (Builtin.append_ #[t, t] ty #[v, .slice (some A) m c]).run P w = .ok v' w' ∧ Rw B w' e size v' (n + m) (xs ++ ys) ∧ Mv (own v) (own v') w w' := by
  subst hsize hby
  have hlen : (xs ++ ys).length = (n + m) * i0.size := by rw [List.length_append, h.1, hl, Nat.add_mul]
  have grown : ∀ sv (c' : Nat) (cur' : List Value), (Builtin.append_ #[t, t] ty #[sv, .slice (some A) m c]).run P w = .ok (.slice (some ⟨w.heap.size, 0, none⟩) (n + m) c') (w.drew.alloc (.cells cur'.toArray e)) → n + m ≤ c' → c' ≤ maxLen → c' * i0.size ≤ cur'.length → cur'.take ((n + m) * i0.size) = xs ++ ys →
      ∃ v' w', (Builtin.append_ #[t, t] ty #[sv, .slice (some A) m c]).run P w = .ok v' w' ∧ Rw B w' e i0.size v' (n + m) (xs ++ ys) ∧ Mv (own sv) (own v') w w' := by
    intro sv c' cur' hr h1 h2 h3 h4
    refine ⟨_, _, hr, ⟨hlen, .inr ⟨_, c', cur'.toArray, rfl, hB, heap_alloc_new w.drew _, h1, h2, by simpa using h3, by simpa using h4⟩⟩, rfl, rfl, rfl, by simp, fun k hk _ => heap_alloc_old w.drew _ hk, fun k hk => .inr ?_⟩
    have e : w.heap.size = k := by simpa [own, Value.ownBlock] using hk
    omega
  have hcap : ∀ c0, (n + m) ≤ grownCap w (n + m) c0 e ∧ grownCap w (n + m) c0 e ≤ maxLen := fun c0 => ⟨grownCap_ge _ _ _ _, grownCap_le_maxLen _ _ _ _ (by simp only [maxLen]; omega)⟩
  rcases h.2 with ⟨rfl, rfl⟩ | ⟨g, cap, cur, rfl, hb, hg, hnc, hcm, hcs, htake⟩
  · have hxs : xs = [] := List.eq_nil_of_length_eq_zero (by simpa using h.1)
    subst hxs
    · have hr := run_append_nil (P := P) w t ty e i0 z ht hi hz A m c ys hl hys (by omega) (by omega) (by rw [Nat.zero_add] at hbig; omega)
      obtain ⟨c1, c2⟩ := hcap 0
      rw [Nat.zero_add] at c1 c2
      refine grown _ (grownCap w m 0 e) (ys ++ (Builtin.zeroCells z.cells (grownCap w m 0 e - m)).toList) (by rw [Nat.zero_add, hr, arr_app]) (by omega) c2 ?_ ?_
      · rw [List.length_append, hl, Array.length_toList, size_zeroCells, hzs, ← Nat.add_mul]
        exact Nat.mul_le_mul_right _ (by omega)
      · rw [Nat.zero_add, List.nil_append, ← hl, List.take_left]
  · by_cases hroom : n + m ≤ cap
    · have hfit : n * i0.size + ys.length ≤ cur.size := by
        rw [hl, ← Nat.add_mul]
        exact Nat.le_trans (Nat.mul_le_mul_right _ hroom) hcs
      have hr := run_append_room (P := P) w t ty e i0 ht hi g n cap cur hg A m c ys hl hys h1 hroom hfit
      refine ⟨_, _, hr, ⟨hlen, .inr ⟨g, cap, _, rfl, hb, setRow_heap w g cur _ e _ hg, hroom, hcm, ?_, ?_⟩⟩, rfl, rfl, rfl, ?_, fun k hk hc => setRow_other w g k _ fun e => hc (by show (Value.slice (some ⟨g, 0, none⟩) n cap).ownBlock = some k; rw [e]; rfl), fun k hk => .inl hk⟩
      · simp only [List.size_toArray, List.length_append, List.length_take, List.length_drop, Array.length_toList]
        omega
      · show List.take _ (List.take (n * i0.size) cur.toList ++ ys ++ _) = _
        rw [htake, ← hlen, List.take_left]
      · simp [World.setRow]
    · have hr := run_append_grow (P := P) w t ty e i0 z ht hi hz ⟨g, 0, none⟩ n cap xs h.1 (fun j u hu => ?_) A m c ys hl hys (by omega) (by omega) (growslice_fits (by omega) hbig)
      · obtain ⟨c1, c2⟩ := hcap cap
        refine grown _ (grownCap w (n + m) cap e) (xs ++ ys ++ (Builtin.zeroCells z.cells (grownCap w (n + m) cap e - (n + m))).toList) (by rw [hr, arr_app]; simp) c1 c2 ?_ ?_
        · rw [List.length_append, hlen, Array.length_toList, size_zeroCells, hzs, ← Nat.add_mul]
          exact Nat.mul_le_mul_right _ (by omega)
        · rw [← hlen, List.take_left]
      · rw [add0, cell_of_row w g j _ _ _ hg, ← Array.getElem?_toList]
        rw [← htake, List.getElem?_take] at hu
        split at hu
        · exact hu
        · cases hu

/-- append(s[:i], s[j:]...). -/
theorem run_cut_rw {g cap : Nat} (h : Rw B w e size (.slice (some ⟨g, 0, none⟩) n cap) n xs) (i j : Nat) (hij : i ≤ j) (hj : j ≤ n) (h1 : ∀ u ∈ xs, u.oneCell' = true)
    (t ty : TypeId) (ti : TypeInfo) (ht : P.underlying t = some (.slice e)) (hi : P.info? e = some ti) (hsize : ti.size = size) (A : Addr) (hA : j < n → A = ⟨g, j * size, none⟩) (m c : Nat) (hm : m = n - j) :
    ∃ w', (Builtin.append_ #[t, t] ty #[.slice (some ⟨g, 0, none⟩) i cap, .slice (some A) m c]).run P w = .ok (.slice (some ⟨g, 0, none⟩) (i + m) cap) w' ∧
      Rw B w' e size (.slice (some ⟨g, 0, none⟩) (i + m) cap) (i + m) (xs.take (i * size) ++ xs.drop (j * size)) ∧ w.grownBy w' (some g) := by
  subst hm hsize
  rcases h.2 with ⟨h', _⟩ | ⟨g', cap', cur, h', hb, hg, hnc, hcm, hcs, htake⟩
  · simp at h'
  simp only [Value.slice.injEq, Option.some.injEq, Addr.mk.injEq, and_true, true_and] at h'
  obtain ⟨rfl, rfl⟩ := h'
  have hl : (xs.drop (j * ti.size)).length = (n - j) * ti.size := by rw [List.length_drop, h.1, Nat.sub_mul]
  have hroom : i + (n - j) ≤ cap := by omega
  have hfit : i * ti.size + (xs.drop (j * ti.size)).length ≤ cur.size := by
    rw [hl, ← Nat.add_mul]
    exact Nat.le_trans (Nat.mul_le_mul_right _ hroom) hcs
  have hcell : ∀ q u, xs[q]? = some u → w.cell? ⟨g, q, none⟩ = some u := fun q u hu => by
    rw [cell_of_row w g q _ _ _ hg, ← Array.getElem?_toList]
    rw [← htake, List.getElem?_take] at hu
    split at hu
    · exact hu
    · cases hu
  have hr := run_append_room (P := P) w t ty e ti ht hi g i cap cur hg A (n - j) c (xs.drop (j * ti.size)) hl (fun q u hq => by
      have hq1 : q < (xs.drop (j * ti.size)).length := (List.getElem?_eq_some_iff.1 hq).1
      rw [hl] at hq1
      have hjn : j < n := by
        rcases Nat.lt_or_ge j n with h' | h'
        · exact h'
        · rw [show n - j = 0 by omega] at hq1; simp at hq1
      rw [hA hjn, Addr.add_lit]
      rw [List.getElem?_drop] at hq
      exact hcell _ _ hq) (fun u hu => h1 u (List.mem_of_mem_drop hu)) hroom hfit
  have hle : i * ti.size ≤ n * ti.size := Nat.mul_le_mul_right _ (by omega)
  have hti : (cur.toList.take (i * ti.size)) = xs.take (i * ti.size) := by rw [← htake, List.take_take, Nat.min_eq_left hle]
  have hlen : (xs.take (i * ti.size) ++ xs.drop (j * ti.size)).length = (i + (n - j)) * ti.size := by
    rw [List.length_append, hl, List.length_take, h.1, Nat.min_eq_left hle, ← Nat.add_mul]
  refine ⟨_, hr, ⟨hlen, .inr ⟨g, cap, _, rfl, hb, setRow_heap w g cur _ e _ hg, hroom, hcm, ?_, ?_⟩⟩, rfl, rfl, rfl, by simp [World.setRow], fun k _ hk => setRow_other w g k _ fun e => hk (by simp [e])⟩
  · simp only [List.size_toArray, List.length_append, List.length_take, List.length_drop, Array.length_toList]
    rw [List.length_drop] at hfit
    omega
  · show List.take _ (List.take (i * ti.size) cur.toList ++ _ ++ _) = _
    rw [hti, ← hlen, List.take_left]

/-- clear(s[n:n+m]) behind a row's end. -/
theorem run_clear_rw {g cap : Nat} (h : Rw B w e size (.slice (some ⟨g, 0, none⟩) n cap) n xs) (m c off : Nat) (hm : 0 < m) (hmc : n + m ≤ cap) (hoff : off = n * size) (t ty : TypeId) (ht : P.underlying t = some (.slice e)) (z : Value)
    (hz : ∀ w, (zeroValue e).run P w = .ok z w) (hzs : z.cells.size = size) (h1 : ∀ u ∈ z.cells.toList, u.oneCell' = true) :
    ∃ w', (Builtin.clear_ #[t] ty #[.slice (some ⟨g, off, none⟩) m c]).run P w = .ok (.tuple #[]) w' ∧ Rw B w' e size (.slice (some ⟨g, 0, none⟩) n cap) n xs ∧ w.grownBy w' (some g) := by
  subst hoff
  have hlen : (Builtin.zeroCells z.cells m).toList.length = m * size := by rw [Array.length_toList, size_zeroCells, hzs]
  have hmem : ∀ u ∈ (Builtin.zeroCells z.cells m).toList, u.oneCell' = true := by
    intro u hu
    simp only [Builtin.zeroCells, Array.toList_map, List.mem_map, Array.toList_range, List.mem_range] at hu
    obtain ⟨i, hi, rfl⟩ := hu
    have hpos : 0 < z.cells.size := by
      rcases Nat.eq_zero_or_pos z.cells.size with h0 | h0
      · rw [h0] at hi; simp at hi
      · exact h0
    have hlt : i % z.cells.size < z.cells.size := Nat.mod_lt _ hpos
    rw [getElem!_pos z.cells _ hlt]
    exact h1 _ (Array.getElem_mem_toList hlt)
  rcases h.2 with ⟨h', _⟩ | ⟨g', cap', cur, h', hb, hg, hnc, hcm, hcs, htake⟩
  · simp at h'
  · simp only [Value.slice.injEq, Option.some.injEq, Addr.mk.injEq, and_true, true_and] at h'
    obtain ⟨rfl, rfl⟩ := h'
    have hfit : n * size + (Builtin.zeroCells z.cells m).toList.length ≤ cur.size := by
      rw [hlen, ← Nat.add_mul]; exact Nat.le_trans (Nat.mul_le_mul_right _ hmc) hcs
    have hst := run_storeCells_at P g (n * size) e (Builtin.zeroCells z.cells m).toList 0 cur w hg (by simpa using hfit) hmem
    simp only [Nat.add_zero] at hst
    obtain ⟨k, rfl⟩ : ∃ k, m = k + 1 := ⟨m - 1, by omega⟩
    refine ⟨_, by simp [Builtin.clear_, run_underlying ht, hz, hst]; rfl, ⟨h.1, .inr ⟨g, cap, _, rfl, hb, setRow_heap w g cur _ e _ hg, hnc, hcm, ?_, ?_⟩⟩, ⟨rfl, rfl, rfl, by simp, fun k _ hk => setRow_other w g k _ (fun e => hk (by simp [e]))⟩⟩
    · simp only [List.size_toArray, List.length_append, List.length_take, List.length_drop, Array.length_toList]
      rw [Array.length_toList] at hfit
      omega
    · have hn : n * size ≤ cur.toList.length := by rw [Array.length_toList]; omega
      rw [← htake]
      show List.take (n * size) (List.take (n * size) cur.toList ++ (_ ++ _)) = _
      rw [List.take_append_of_le_length (by rw [List.length_take]; omega), List.take_take, Nat.min_self]
end

end Go.Proofs.Ytaoamkkgiiiejaa
