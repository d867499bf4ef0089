/- Rows that a call owns, that may begin anywhere in their block: s[k:], and what is appended to it. -/
import Derived.Test.YtaoamkkgiiiejaaRw
namespace Go.Proofs.Ytaoamkkgiiiejaa
open Go.RowKit
set_option linter.unusedVariables false

/-- The slice v has n elements of type e (size cells each), the cells xs, from off on in a block from B on. -/
def Of (B : Nat) (w : World) (e : TypeId) (size : Nat) (v : Value) (n : Nat) (xs : List Value) : Prop :=
  xs.length = n * size ∧ ((v = .slice none 0 0 ∧ n = 0) ∨
    ∃ g off cap cur, v = .slice (some ⟨g, off, none⟩) n cap ∧ B ≤ g ∧ w.heap[g]? = some (.cells cur e (0, 0)) ∧ n ≤ cap ∧ cap ≤ maxLen ∧ (0 < cap → off + cap * size ≤ cur.size) ∧ (cur.toList.drop off).take (n * size) = xs)

section
variable {B : Nat} {w w' : World} {e : TypeId} {size n : Nat} {v : Value} {xs : List Value}

theorem Of.nil (B : Nat) (w : World) (e : TypeId) (size : Nat) : Of B w e size (.slice none 0 0) 0 [] := ⟨by simp, .inl ⟨rfl, rfl⟩⟩
theorem Of.hasT (h : Of B w e size v n xs) (k : Nat) (hk : v.ownBlock = some k) : B ≤ k ∧ k < w.heap.size ∧ HasT w k e := by
  rcases h.2 with ⟨rfl, _⟩ | ⟨g, off, cap, cur, rfl, hb, hg, _⟩
  · simp [Value.ownBlock] at hk
  · have e' : g = k := by simpa [Value.ownBlock] using hk
    subst e'
    exact ⟨hb, lt_of_block hg, cur, _, hg⟩
theorem Of.lt (h : Of B w e size v n xs) (k : Nat) (hk : v.ownBlock = some k) : B ≤ k ∧ k < w.heap.size := ⟨(h.hasT k hk).1, (h.hasT k hk).2.1⟩
theorem Of.ne (h : Of B w e size v n xs) {p : Nat} {cs : Array Value} {T : TypeId} {fr : Nat × Nat} (hb : w.heap[p]? = some (.cells cs T fr)) (hT : e ≠ T) : v.ownBlock ≠ some p := by
  intro hk
  obtain ⟨_, _, cs', fr', hb'⟩ := h.hasT p hk
  rw [hb] at hb'
  injection hb' with hb'
  injection hb' with _ e'
  exact hT e'.symm
theorem Of.stays (h : Of B w e size v n xs) (hb : ∀ k, v.ownBlock = some k → w'.heap[k]? = w.heap[k]?) : Of B w' e size v n xs := by
  obtain ⟨h1, h2⟩ := h
  refine ⟨h1, ?_⟩
  rcases h2 with h2 | ⟨g, off, cap, cur, rfl, hB, hg, r⟩
  · exact .inl h2
  · exact .inr ⟨g, off, cap, cur, rfl, hB, (hb g rfl).trans hg, r⟩
theorem Of.below (h : Of B w e size v n xs) (hb : Below w.heap.size w w') : Of B w' e size v n xs := h.stays fun k hk => hb.block k (h.lt k hk).2
theorem Of.base {C : Nat} (h : Of C w e size v n xs) (hB : B ≤ C) : Of B w e size v n xs := by
  obtain ⟨h1, h2⟩ := h
  refine ⟨h1, ?_⟩
  rcases h2 with h2 | ⟨g, off, cap, cur, hv, hg, r⟩
  · exact .inl h2
  · exact .inr ⟨g, off, cap, cur, hv, Nat.le_trans hB hg, r⟩
theorem Mv.of_ {F F' : Nat → Prop} (h : Mv F F' w w') (ho : Of B w e size v n xs) (ha : Apart v F) : Of B w' e size v n xs :=
  ho.stays fun k hk => h.block k (ho.lt k hk).2 fun hf => ha k hk hf
theorem Of.shape (h : Of B w e size v n xs) : ∃ A cap, v = .slice A n cap ∧ n ≤ cap ∧ cap ≤ 9223372036854775807 ∧ (A = none → n = 0 ∧ cap = 0 ∧ xs = []) ∧
    ∀ a, A = some a → ∃ g off, a = ⟨g, off, none⟩ ∧ B ≤ g ∧ g < w.heap.size ∧ ∀ j u, xs[j]? = some u → w.cell? ⟨g, off + j, none⟩ = some u := by
  obtain ⟨h1, h2⟩ := h
  rcases h2 with ⟨rfl, rfl⟩ | ⟨g, off, cap, cur, rfl, hB, hg, hnc, hcm, hoc, hx⟩
  · exact ⟨none, 0, rfl, Nat.le_refl _, by omega, fun _ => ⟨rfl, rfl, List.eq_nil_of_length_eq_zero (by simpa using h1)⟩, fun a h => by cases h⟩
  · refine ⟨_, cap, rfl, hnc, by simp only [maxLen] at hcm; omega, (fun h => by cases h), fun a ha => ?_⟩
    injection ha with ha
    subst ha
    refine ⟨g, off, rfl, hB, lt_of_block hg, fun j u hu => ?_⟩
    rw [cell_of_row w g _ _ _ _ hg, ← Array.getElem?_toList]
    rw [← hx, List.getElem?_take] at hu
    split at hu
    · rw [List.getElem?_drop] at hu; exact hu
    · cases hu
/-- v[k:]. -/
theorem Of.drop_ {g off cap : Nat} (h : Of B w e size (.slice (some ⟨g, off, none⟩) n cap) n xs) (k : Nat) (hk : k ≤ n) (A : Addr) (hA : A = if cap = k then ⟨g, off, none⟩ else ⟨g, off + k * size, none⟩) :
    Of B w e size (.slice (some A) (n - k) (cap - k)) (n - k) (xs.drop (k * size)) := by
  subst hA
  obtain ⟨h1, h2⟩ := h
  rcases h2 with ⟨h', _⟩ | ⟨g', off', cap', cur, he, hB, hg, hnc, hcm, hoc, hx⟩
  · injection h' with h'; cases h'
  injection he with q1 q2 q3
  injection q1 with q1
  injection q1 with q4 q5
  subst q3 q4 q5
  have hl : (xs.drop (k * size)).length = (n - k) * size := by rw [List.length_drop, h1, Nat.sub_mul]
  refine ⟨hl, ?_⟩
  by_cases hc : cap = k
  · rw [if_pos hc]
    have hnk : n - k = 0 := by omega
    refine .inr ⟨g, off, cap - k, cur, rfl, hB, hg, by omega, by omega, fun h => by omega, ?_⟩
    rw [hnk, Nat.zero_mul, List.take_zero]
    exact (List.eq_nil_of_length_eq_zero (by rw [hl, hnk, Nat.zero_mul])).symm
  · rw [if_neg hc]
    have e1 : k * size + (cap - k) * size = cap * size := by rw [← Nat.add_mul]; congr 1; omega
    refine .inr ⟨g, off + k * size, cap - k, cur, rfl, hB, hg, by omega, by omega, fun h => by have := hoc (by omega); omega, ?_⟩
    rw [← hx, List.drop_take, List.drop_drop, Nat.sub_mul]
end

section
variable {P : Program} {B : Nat} {w : World} {e : TypeId} {size n : Nat} {v : Value} {xs : List Value}

/-- append(v, y...): y's cells are known. -/
theorem run_app_of (h : Of B w e size v n xs) (hB : B ≤ w.heap.size) (t ty : TypeId) (i0 : TypeInfo) (z : Value) (bytes : Nat) (ht : P.underlying t = some (.slice e)) (hi : P.info? e = some i0) (hz : i0.zero = some z) (hsize : i0.size = size) (hby : i0.bytes = bytes)
    (hzs : z.cells.size = size) (hsz : 0 < size) (A : Addr) (m c : Nat) (hm : 0 < m) (ys : List Value) (hl : ys.length = m * size) (hys : ∀ j u, ys[j]? = some u → w.cell? (A.add j) = some u) (h1 : ∀ u ∈ ys, u.oneCell' = true)
    (hbig : (n + m) * bytes ≤ 140737488355328) (hn : n + m ≤ 140737488355328) :
    ∃ v' w', (Builtin.append_ #[t, t] ty #[v, .slice (some A) m c]).run P w = .ok v' w' ∧ Of B w' e size v' (n + m) (xs ++ ys) ∧ Mv (own v) (own v') w w' := by
  subst hsize hby
  have hlen : (xs ++ ys).length = (n + m) * i0.size := by rw [List.length_append, h.1, hl, Nat.add_mul]
  have grown : ∀ sv (c' : Nat) (cur' : List Value), (Builtin.append_ #[t, t] ty #[sv, .slice (some A) m c]).run P w = .ok (.slice (some ⟨w.heap.size, 0, none⟩) (n + m) c') (w.drew.alloc (.cells cur'.toArray e)) → n + m ≤ c' → c' ≤ maxLen → c' * i0.size ≤ cur'.length → cur'.take ((n + m) * i0.size) = xs ++ ys →
      ∃ v' w', (Builtin.append_ #[t, t] ty #[sv, .slice (some A) m c]).run P w = .ok v' w' ∧ Of B w' e i0.size v' (n + m) (xs ++ ys) ∧ Mv (own sv) (own v') w w' := by
    intro sv c' cur' hr h1 h2 h3 h4
    refine ⟨_, _, hr, ⟨hlen, .inr ⟨_, 0, c', cur'.toArray, rfl, hB, heap_alloc_new w.drew _, h1, h2, fun _ => by simpa using h3, by simpa using h4⟩⟩, rfl, rfl, rfl, by simp, fun k hk _ => heap_alloc_old w.drew _ hk, fun k hk => .inr ?_⟩
    have e : w.heap.size = k := by simpa [own, Value.ownBlock] using hk
    omega
  have hcap : ∀ c0, (n + m) ≤ grownCap w (n + m) c0 e ∧ grownCap w (n + m) c0 e ≤ maxLen := fun c0 => ⟨grownCap_ge _ _ _ _, grownCap_le_maxLen _ _ _ _ (by simp only [maxLen]; omega)⟩
  rcases h.2 with ⟨rfl, rfl⟩ | ⟨g, off, cap, cur, rfl, hb, hg, hnc, hcm, hcs, htake⟩
  · have hxs : xs = [] := List.eq_nil_of_length_eq_zero (by simpa using h.1)
    subst hxs
    have hr := run_append_nil (P := P) w t ty e i0 z ht hi hz A m c ys hl hys (by omega) (by omega) (by rw [Nat.zero_add] at hbig; omega)
    obtain ⟨c1, c2⟩ := hcap 0
    rw [Nat.zero_add] at c1 c2
    refine grown _ (grownCap w m 0 e) (ys ++ (Builtin.zeroCells z.cells (grownCap w m 0 e - m)).toList) (by rw [Nat.zero_add, hr, arr_app]) (by omega) c2 ?_ ?_
    · rw [List.length_append, hl, Array.length_toList, size_zeroCells, hzs, ← Nat.add_mul]
      exact Nat.mul_le_mul_right _ (by omega)
    · rw [Nat.zero_add, List.nil_append, ← hl, List.take_left]
  · have hxc : ∀ j u, xs[j]? = some u → w.cell? ((⟨g, off, none⟩ : Addr).add j) = some u := fun j u hu => by
      rw [Addr.add_lit, cell_of_row w g _ _ _ _ hg, ← Array.getElem?_toList]
      rw [← htake, List.getElem?_take] at hu
      split at hu
      · rw [List.getElem?_drop] at hu; exact hu
      · cases hu
    by_cases hroom : n + m ≤ cap
    · have hcs' := hcs (by omega)
      have e2 : (n + m) * i0.size ≤ cap * i0.size := Nat.mul_le_mul_right _ hroom
      have e3 : (n + m) * i0.size = n * i0.size + m * i0.size := Nat.add_mul ..
      have hfit : off + n * i0.size + ys.length ≤ cur.size := by rw [hl]; omega
      have hf := run_firstCells_some (P := P) w i0.size m A m c ys hl hys
      have hst := run_storeCells_at P g (off + n * i0.size) e ys 0 cur w hg (by simpa using hfit) h1
      simp only [Nat.add_zero] at hst
      refine ⟨.slice (some ⟨g, off, none⟩) (n + m) cap, _, by simp [Builtin.append_, run_underlying ht, sizeOf, typeInfo, hi, Builtin.lenOf, hroom, hf, Addr.add_lit, hst]; rfl, ⟨hlen, .inr ⟨g, off, cap, _, rfl, hb, setRow_heap w g cur _ e _ hg, hroom, hcm, fun _ => ?_, ?_⟩⟩, rfl, rfl, rfl, by simp [World.setRow], fun k hk hc => setRow_other w g k _ fun e9 => hc (by show (Value.slice (some ⟨g, off, none⟩) n cap).ownBlock = some k; rw [e9]; rfl), fun k hk => .inl hk⟩
      · have h9 : cur.toList.length = cur.size := Array.length_toList
        simp only [List.size_toArray, List.length_append, List.length_take, List.length_drop]
        omega
      · have h9 : cur.toList.length = cur.size := Array.length_toList
        have e4 : (cur.toList.take (off + n * i0.size)).drop off = xs := by
          rw [List.drop_take, Nat.add_sub_cancel_left]; exact htake
        show List.take _ (List.drop off (List.take (off + n * i0.size) cur.toList ++ (ys ++ _))) = _
        rw [List.drop_append_of_le_length (by rw [List.length_take]; omega), e4, ← List.append_assoc, ← hlen, List.take_left]
    · have hr := run_append_grow (P := P) w t ty e i0 z ht hi hz ⟨g, off, none⟩ n cap xs h.1 hxc A m c ys hl hys (by omega) (by omega) (growslice_fits (by omega) hbig)
      obtain ⟨c1, c2⟩ := hcap cap
      refine grown _ (grownCap w (n + m) cap e) (xs ++ ys ++ (Builtin.zeroCells z.cells (grownCap w (n + m) cap e - (n + m))).toList) (by rw [hr, arr_app]; simp) c1 c2 ?_ ?_
      · rw [List.length_append, hlen, Array.length_toList, size_zeroCells, hzs, ← Nat.add_mul]
        exact Nat.mul_le_mul_right _ (by omega)
      · rw [← hlen, List.take_left]
end

end Go.Proofs.Ytaoamkkgiiiejaa
