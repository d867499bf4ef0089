/- The law's own account of a deed comes to what the program does. Plain lists and numbers alone. -/
import Derived.Test.YtjbjkkicfdaljaaOncePure
namespace Go.Proofs.Ytjbjkkicfdaljaa

/-! ### Where one is, seen from the end -/
def atTo (l : List One) (id : Int) (k : Nat) : Int := if idx l id < k then (idx l id : Int) else -1
theorem atTo_zero (l : List One) (id : Int) : atTo l id 0 = -1 := by unfold atTo; rw [if_neg (by omega)]
theorem idx_nodup (l : List One) (id : Int) (h : (idsOf l).Nodup) (k : Nat) (hk : k < l.length) : idx l id = k ↔ (ith l k).id = id := by
  constructor
  · intro e
    have hlt : idx l id < l.length := by omega
    have this : ((fun x : One => x.id == id) (l[idx l id]'hlt)) = true := List.findIdx_getElem (xs := l) (p := fun x : One => x.id == id) (w := hlt)
    have h2 : (l[idx l id]'hlt).id = id := by simpa using this
    rw [← e, ith_get l _ hlt]
    exact h2
  · intro e
    refine idx_hit l id k hk (fun j hj => ?_) (by rw [e]; simp)
    rw [idsOf_map] at h
    have h2 : (ith l j).id ≠ (ith l k).id := by
      rw [ith_get l j (by omega), ith_get l k hk]
      have := (List.pairwise_iff_getElem.1 h) j k (by simp; omega) (by simpa using hk) hj
      simpa using this
    rw [e] at h2
    simpa using h2
theorem atTo_succ (l : List One) (id : Int) (h : (idsOf l).Nodup) (k : Nat) (hk : k < l.length) : atTo l id (k + 1) = if (ith l k).id = id then (k : Int) else atTo l id k := by
  have hi := idx_nodup l id h k hk
  unfold atTo
  by_cases e : (ith l k).id = id
  · have e2 := hi.2 e
    rw [if_pos e, e2, if_pos (by omega)]
  · have e2 : idx l id ≠ k := fun e3 => e (hi.1 e3)
    rw [if_neg e]
    by_cases e3 : idx l id < k
    · rw [if_pos (by omega), if_pos e3]
    · rw [if_neg (by omega), if_neg e3]
theorem atTo_all (l : List One) (id : Int) : atTo l id l.length = idxI l id := rfl

/-! ### The oldest -/
def oldTo (l : List One) : Nat → Int
  | 0 => 0
  | k + 1 => if (ith l k).runs then (if oldTo l k < (ith l k).age then (ith l k).age else oldTo l k) else oldTo l k
theorem oldTo_nonneg (l : List One) (k : Nat) : 0 ≤ oldTo l k := by
  induction k with
  | zero => exact Int.le_refl _
  | succ k ih =>
    unfold oldTo
    split
    · split <;> omega
    · exact ih
theorem oldTo_ge (l : List One) (k : Nat) (i : Nat) (hi : i < k) (hr : (ith l i).runs = true) : (ith l i).age ≤ oldTo l k := by
  induction k with
  | zero => omega
  | succ k ih =>
    unfold oldTo
    rcases Nat.lt_or_ge i k with h | h
    · have := ih h
      split
      · split <;> omega
      · exact this
    · have e : i = k := by omega
      subst e
      rw [if_pos hr]
      split <;> omega
theorem oldTo_hit (l : List One) (k : Nat) (h : 0 < oldTo l k) : ∃ i, i < k ∧ (ith l i).runs = true ∧ (ith l i).age = oldTo l k := by
  induction k with
  | zero => exact absurd h (by show ¬ (0 : Int) < 0; omega)
  | succ k ih =>
    unfold oldTo at h ⊢
    by_cases hr : (ith l k).runs = true
    · rw [if_pos hr] at h ⊢
      by_cases hlt : oldTo l k < (ith l k).age
      · rw [if_pos hlt]; exact ⟨k, by omega, hr, rfl⟩
      · rw [if_neg hlt] at h ⊢
        obtain ⟨i, hi, h1, h2⟩ := ih h
        exact ⟨i, by omega, h1, h2⟩
    · rw [if_neg hr] at h ⊢
      obtain ⟨i, hi, h1, h2⟩ := ih h
      exact ⟨i, by omega, h1, h2⟩
theorem oldTo_le (l : List One) (M : Int) (hM : 0 ≤ M) (h : AgesLe l M) (k : Nat) (hk : k ≤ l.length) : oldTo l k ≤ M := by
  induction k with
  | zero => exact hM
  | succ k ih =>
    have h1 := h k (by omega)
    have h2 := ih (by omega)
    unfold oldTo
    split
    · split <;> omega
    · exact h2

/-! ### Places, by index -/
theorem plcTo_prefix (l : List One) (k : Nat) (hk : k ≤ l.length) : (plc l).take (plcTo l k).length = plcTo l k := by
  have key : ∀ d k, k + d = l.length → ∃ r, plc l = plcTo l k ++ r := by
    intro d
    induction d with
    | zero => intro k e; exact ⟨[], by unfold plc; rw [← e]; simp⟩
    | succ d ih =>
      intro k e
      obtain ⟨r, hr⟩ := ih (k + 1) (by omega)
      rw [plcTo_succ, List.append_assoc] at hr
      exact ⟨_, hr⟩
  obtain ⟨r, hr⟩ := key (l.length - k) k (by omega)
  rw [hr, List.take_left']
  rfl
theorem plcTo_next (l : List One) (k : Nat) (hk : k < l.length) (hr : (ith l k).runs = true) : (plcTo l k).length < (plc l).length ∧ nth (plc l) (plcTo l k).length = k := by
  have h1 := plcTo_prefix l (k + 1) (by omega)
  rw [plcTo_succ, if_pos hr] at h1
  have hlen : (plcTo l k ++ [k]).length = (plcTo l k).length + 1 := by simp
  rw [hlen] at h1
  have h2 := congrArg List.length h1
  rw [List.length_take, hlen] at h2
  have hlt : (plcTo l k).length < (plc l).length := by omega
  refine ⟨hlt, ?_⟩
  rw [take_succ_getD (plc l) 0 _ hlt, plcTo_prefix l k (by omega)] at h1
  have := List.append_cancel_left h1
  simpa [nth] using this

/-! ### Who is picked -/
/-- Would the law pick k? -/
def cand (l : List One) (old pl : Int) (k : Nat) : Prop := (16 ≤ old ∧ (ith l k).age = old) ∨ (old < 16 ∧ pl - ((plcTo l k).length : Int) = 0)
instance (l : List One) (old pl : Int) (k : Nat) : Decidable (cand l old pl k) := by unfold cand; infer_instance
def pkTo (l : List One) (old pl : Int) : Nat → Int
  | 0 => -1
  | k + 1 => if (ith l k).runs = true ∧ pkTo l old pl k < 0 ∧ cand l old pl k then (k : Int) else pkTo l old pl k
theorem pkTo_facts (l : List One) (old pl : Int) (k : Nat) : (pkTo l old pl k = -1 ∧ ∀ i, i < k → (ith l i).runs = true → ¬ cand l old pl i) ∨
    ∃ i : Nat, pkTo l old pl k = (i : Int) ∧ i < k ∧ (ith l i).runs = true ∧ cand l old pl i ∧ ∀ j, j < i → (ith l j).runs = true → ¬ cand l old pl j := by
  induction k with
  | zero => exact .inl ⟨rfl, fun i hi => absurd hi (by omega)⟩
  | succ k ih =>
    unfold pkTo
    rcases ih with ⟨h1, h2⟩ | ⟨i, h1, h2, h3, h4, h5⟩
    · by_cases hc : (ith l k).runs = true ∧ cand l old pl k
      · rw [if_pos ⟨hc.1, by omega, hc.2⟩]
        exact .inr ⟨k, rfl, by omega, hc.1, hc.2, h2⟩
      · rw [if_neg (fun h => hc ⟨h.1, h.2.2⟩)]
        refine .inl ⟨h1, fun i hi hr => ?_⟩
        rcases Nat.lt_or_ge i k with h | h
        · exact h2 i h hr
        · have e : i = k := by omega
          subst e
          exact fun h6 => hc ⟨hr, h6⟩
    · rw [if_neg (fun h => by have := h.2.1; omega)]
      exact .inr ⟨i, h1, by omega, h3, h4, h5⟩

/-- Where somebody is older than 15: the first of the oldest is picked. -/
theorem pickTo_first (l : List One) (n : Int) (j : Nat) (h : j ≤ (plc l).length) (ho : 15 < (pickTo l n j).2) :
    ∃ q, q < j ∧ (pickTo l n j).1 = nth (plc l) q ∧ (ith l (nth (plc l) q)).age = (pickTo l n j).2 ∧ ∀ r, r < q → (ith l (nth (plc l) r)).age < (pickTo l n j).2 := by
  induction j with
  | zero => exact absurd ho (by show ¬ (15 : Int) < 15; omega)
  | succ j ih =>
    have hf := pickTo_facts l n j (by omega)
    rw [pickTo_succ l n j (by omega)] at ho ⊢
    unfold pstep at ho ⊢
    by_cases hlt : (pickTo l n j).2 < (ith l (nth (plc l) j)).age
    · rw [if_pos hlt] at ho ⊢
      refine ⟨j, by omega, rfl, rfl, fun r hr => ?_⟩
      have hm : nth (plc l) r ∈ (plc l).take j := by
        rw [nth_get _ _ (by omega)]
        exact List.mem_take_iff_getElem.2 ⟨r, by omega, rfl⟩
      have := hf.2.2.2 _ hm
      show _ < (ith l (nth (plc l) j)).age
      omega
    · rw [if_neg hlt] at ho ⊢
      obtain ⟨q, h1, h2, h3, h4⟩ := ih (by omega) ho
      exact ⟨q, by omega, h2, h3, h4⟩

/-- Index and place run together. -/
theorem nth_mono (l : List One) (q r : Nat) (hq : q < (plc l).length) (hr : r < (plc l).length) (h : nth (plc l) r < nth (plc l) q) : r < q := by
  have hs : (plc l).Pairwise (· < ·) := by
    unfold plc plcTo
    exact List.Pairwise.filter _ List.pairwise_lt_range
  rcases Nat.lt_or_ge r q with h1 | h1
  · exact h1
  · rcases Nat.eq_or_lt_of_le h1 with h2 | h2
    · subst h2; omega
    · have := (List.pairwise_iff_getElem.1 hs) q r hq hr h2
      rw [nth_get _ _ hq, nth_get _ _ hr] at h
      omega
theorem plc_place (l : List One) (i : Nat) (hi : i < l.length) (hr : (ith l i).runs = true) : ∃ q, q < (plc l).length ∧ nth (plc l) q = i := ⟨_, plcTo_next l i hi hr⟩
theorem nth_inj (l : List One) (q r : Nat) (hq : q < (plc l).length) (hr : r < (plc l).length) (h : nth (plc l) q = nth (plc l) r) : q = r := by
  have hs : (plc l).Pairwise (· < ·) := by
    unfold plc plcTo
    exact List.Pairwise.filter _ List.pairwise_lt_range
  rw [nth_get _ _ hq, nth_get _ _ hr] at h
  rcases Nat.lt_trichotomy q r with h1 | h1 | h1
  · have := (List.pairwise_iff_getElem.1 hs) q r hq hr h1
    omega
  · exact h1
  · have := (List.pairwise_iff_getElem.1 hs) r q hr hq h1
    omega
theorem plcTo_at (l : List One) (q : Nat) (hq : q < (plc l).length) : (plcTo l (nth (plc l) q)).length = q := by
  have hlt := plc_lt l q hq
  have hr := ((plc_mem l _).1 (nth_mem _ q hq)).2
  obtain ⟨h1, h2⟩ := plcTo_next l _ hlt hr
  exact nth_inj l _ q h1 hq h2

theorem pick_same (l : List One) (n : Int) (h0 : 0 < (plc l).length) : pkTo l (oldTo l l.length) (place l n) l.length = (pickK l n : Int) := by
  have hpl := place_lt l n h0
  obtain ⟨fa, fb, fc, fd⟩ := pickTo_facts l n (plc l).length (Nat.le_refl _)
  rw [List.take_length] at fd
  have hmax : ∀ i, i < l.length → (ith l i).runs = true → (ith l i).age ≤ (pickTo l n (plc l).length).2 := fun i hi hr => fd i ((plc_mem l i).2 ⟨hi, hr⟩)
  by_cases hold : 16 ≤ oldTo l l.length
  · -- somebody is older than 15
    obtain ⟨i0, hi0, hr0, ha0⟩ := oldTo_hit l l.length (by omega)
    have h15 : 15 < (pickTo l n (plc l).length).2 := by have := hmax i0 hi0 hr0; omega
    obtain ⟨q, hq, hqe, hqa, hqf⟩ := pickTo_first l n _ (Nat.le_refl _) h15
    have hqlt := plc_lt l q hq
    have hqr := ((plc_mem l _).1 (nth_mem _ q hq)).2
    have heq : (pickTo l n (plc l).length).2 = oldTo l l.length := by
      have h1 := hmax i0 hi0 hr0
      have h2 := oldTo_ge l l.length _ hqlt hqr
      omega
    show _ = ((pickTo l n (plc l).length).1 : Int)
    rw [hqe]
    rcases pkTo_facts l (oldTo l l.length) (place l n) l.length with ⟨_, h2⟩ | ⟨i, h1, h2, h3, h4, h5⟩
    · exact absurd (.inl ⟨hold, by omega⟩) (h2 _ hqlt hqr)
    · rw [h1]
      have ha : (ith l i).age = oldTo l l.length := by
        rcases h4 with h4 | h4
        · exact h4.2
        · omega
      -- both are the first of that age
      rcases Nat.lt_trichotomy i (nth (plc l) q) with h6 | h6 | h6
      · obtain ⟨r, hr1, hr2⟩ := plc_place l i h2 h3
        have hrq := nth_mono l q r hq hr1 (by rw [hr2]; exact h6)
        have := hqf r hrq
        rw [hr2] at this
        omega
      · rw [h6]
      · exact absurd (.inl ⟨hold, by omega⟩) (h5 _ h6 hqr)
  · -- nobody is
    have h15 : (pickTo l n (plc l).length).2 = 15 := by
      rcases Int.lt_or_le 15 (pickTo l n (plc l).length).2 with h | h
      · obtain ⟨q, hq, hqe, hqa, _⟩ := pickTo_first l n _ (Nat.le_refl _) h
        have h2 := oldTo_ge l l.length _ (plc_lt l q hq) ((plc_mem l _).1 (nth_mem _ q hq)).2
        omega
      · omega
    have hk := fb h15
    show _ = ((pickTo l n (plc l).length).1 : Int)
    rw [hk]
    have hqlt := plc_lt l _ hpl
    have hqr := ((plc_mem l _).1 (nth_mem _ _ hpl)).2
    have hcq : cand l (oldTo l l.length) (place l n) (nth (plc l) (place l n)) := .inr ⟨by omega, by rw [plcTo_at l _ hpl]; omega⟩
    rcases pkTo_facts l (oldTo l l.length) (place l n) l.length with ⟨_, h2⟩ | ⟨i, h1, h2, h3, h4, h5⟩
    · exact absurd hcq (h2 _ hqlt hqr)
    · rw [h1]
      rcases h4 with h4 | h4
      · omega
      · have h6 : (plcTo l i).length = place l n := by omega
        have h7 := (plcTo_next l i h2 h3).2
        rw [h6] at h7
        rw [h7]

end Go.Proofs.Ytjbjkkicfdaljaa
