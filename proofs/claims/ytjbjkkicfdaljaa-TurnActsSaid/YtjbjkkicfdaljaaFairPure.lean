/- Who is picked: nobody who runs all the while waits for longer than Patience and how many there are. Plain lists and numbers alone. -/
import Derived.Test.YtjbjkkicfdaljaaTurnPure
namespace Go.Proofs.Ytjbjkkicfdaljaa

/-- The first k that are there, all running, all of age 0. -/
def lst (k : Nat) : List One := (List.range k).map fun i : Nat => ⟨(i : Int), true, 0⟩
theorem lst_length (k : Nat) : (lst k).length = k := by simp [lst]
theorem lst_ith (k i : Nat) (h : i < k) : ith (lst k) i = ⟨(i : Int), true, 0⟩ := by
  rw [ith_get _ _ (by rw [lst_length]; exact h)]; simp [lst]
theorem lst_succ (k : Nat) : lst (k + 1) = lst k ++ [⟨(k : Int), true, 0⟩] := by simp [lst, List.range_succ]
theorem lst_new (k : Nat) : idx (lst k) (k : Int) = (lst k).length := by
  refine idx_miss _ _ fun j hj => ?_
  rw [lst_length] at hj
  rw [lst_ith k j hj]
  simp; omega

/-! ### What Pick chooses -/
theorem pickTo_facts (l : List One) (n : Int) (j : Nat) (h : j ≤ (plc l).length) : 15 ≤ (pickTo l n j).2 ∧ ((pickTo l n j).2 = 15 → (pickTo l n j).1 = nth (plc l) (place l n)) ∧ (15 < (pickTo l n j).2 → (pickTo l n j).2 = (ith l (pickTo l n j).1).age) ∧ ∀ i ∈ (plc l).take j, (ith l i).age ≤ (pickTo l n j).2 := by
  induction j with
  | zero => simp [pickTo_zero]
  | succ j ih =>
    obtain ⟨a, b, c, d⟩ := ih (by omega)
    rw [pickTo_succ l n j (by omega), take_succ_getD _ 0 _ (by omega)]
    unfold pstep
    split
    · rename_i hlt
      refine ⟨by show 15 ≤ (ith l _).age; omega, fun e => ?_, fun _ => rfl, fun i hi => ?_⟩
      · have e' : (ith l (nth (plc l) j)).age = 15 := e
        omega
      · show (ith l i).age ≤ (ith l (nth (plc l) j)).age
        rcases List.mem_append.1 hi with hi | hi
        · have := d i hi; omega
        · rw [List.mem_singleton.1 hi]; exact Int.le_refl _
    · rename_i hge
      refine ⟨a, b, c, fun i hi => ?_⟩
      rcases List.mem_append.1 hi with hi | hi
      · exact d i hi
      · rw [List.mem_singleton.1 hi]
        show (ith l (nth (plc l) j)).age ≤ _
        omega

/-- All run, under the numbers 0, 1, .. -/
def AllRun (l : List One) : Prop := ∀ i, i < l.length → (ith l i).runs = true ∧ (ith l i).id = (i : Int)
theorem plc_all (l : List One) (h : AllRun l) : plc l = List.range l.length := by
  unfold plc plcTo
  exact List.filter_eq_self.2 fun i hi => (h i (List.mem_range.1 hi)).1
theorem nth_range (n i : Nat) (h : i < n) : nth (List.range n) i = i := by rw [nth_get _ _ (by simpa using h)]; simp

theorem pickL_length (l : List One) (n : Int) : (pickL l n).length = l.length := by
  unfold pickL bump
  rw [List.length_set, bumpTo_length l _ (Nat.le_refl _)]
theorem pickL_get (l : List One) (h : AllRun l) (h0 : 0 < l.length) (n : Int) (i : Nat) (hi : i < l.length) : ith (pickL l n) i = ⟨(i : Int), true, if i = pickK l n then 0 else (ith l i).age + 1⟩ := by
  have hp := plc_all l h
  have hk : pickK l n < l.length := pickTo_lt l n (by rw [hp]; simpa using h0) _ (Nat.le_refl _)
  have hb : ∀ j, j < l.length → ith (bump l) j = ⟨(j : Int), true, (ith l j).age + 1⟩ := by
    intro j hj
    unfold bump
    rw [bumpTo_get l _ (Nat.le_refl _) j, List.take_length, if_pos (by rw [hp]; exact List.mem_range.2 hj)]
    unfold withAge
    rw [(h j hj).1, (h j hj).2]
  unfold pickL
  rw [ith_set _ _ _ _ (by unfold bump; rw [bumpTo_length l _ (Nat.le_refl _)]; exact hk)]
  by_cases e : pickK l n = i
  · subst e
    rw [if_pos rfl, if_pos rfl, hb _ hi]
    rfl
  · rw [if_neg e, if_neg (fun e' => e e'.symm), hb _ hi]
theorem pickL_all (l : List One) (h : AllRun l) (h0 : 0 < l.length) (n : Int) : AllRun (pickL l n) := by
  intro i hi
  rw [pickL_length] at hi
  rw [pickL_get l h h0 n i hi]
  exact ⟨rfl, rfl⟩
theorem pick_facts (l : List One) (h : AllRun l) (h0 : 0 < l.length) (n : Int) : pickK l n < l.length ∧ ((∃ i, i < l.length ∧ 15 < (ith l i).age) → ∀ i, i < l.length → (ith l i).age ≤ (ith l (pickK l n)).age) ∧ ((∀ i, i < l.length → (ith l i).age ≤ 15) → (pickK l n : Int) = n % (l.length : Int)) := by
  have hp := plc_all l h
  have hpl : (plc l).length = l.length := by rw [hp]; simp
  obtain ⟨a, b, c, d⟩ := pickTo_facts l n (plc l).length (Nat.le_refl _)
  rw [List.take_length] at d
  have hm : ∀ i, i < l.length → (ith l i).age ≤ (pickTo l n (plc l).length).2 := fun i hi => d i (by rw [hp]; exact List.mem_range.2 hi)
  refine ⟨pickTo_lt l n (by omega) _ (Nat.le_refl _), fun ⟨j, hj, hj2⟩ i hi => ?_, fun hall => ?_⟩
  · have h1 := hm j hj
    have h2 := c (by omega)
    have h3 := hm i hi
    show _ ≤ (ith l (pickTo l n (plc l).length).1).age
    omega
  · have e : (pickTo l n (plc l).length).2 = 15 := by
      rcases Int.lt_or_le 15 (pickTo l n (plc l).length).2 with hlt | hle
      · have h2 := c hlt
        have h3 := hall _ (pickTo_lt l n (by omega) (plc l).length (Nat.le_refl _))
        omega
      · omega
    have hb := b e
    have hpos : 0 ≤ n % ((plc l).length : Int) := Int.emod_nonneg n (by omega)
    show ((pickTo l n (plc l).length).1 : Int) = _
    rw [hb]
    have hlt := place_lt l n (by omega)
    rw [hpl] at hlt
    have : nth (plc l) (place l n) = place l n := by rw [hp]; exact nth_range _ _ hlt
    rw [this]
    unfold place
    rw [Int.toNat_of_nonneg hpos, hpl]

/-! ### Counting those who wait -/
def cnt (f : Nat → Int) (n : Nat) (a : Int) : Nat := (List.range n).countP fun i => decide (a ≤ f i)
theorem cnt_succ (f : Nat → Int) (n : Nat) (a : Int) : cnt f (n + 1) a = cnt f n a + if a ≤ f n then 1 else 0 := by
  unfold cnt
  rw [List.range_succ, List.countP_append]
  by_cases h : a ≤ f n <;> simp [h]
theorem cnt_step (f g : Nat → Int) (k : Nat) (a : Int) (ha : 0 ≤ a) (n : Nat) (h : ∀ i, i < n → g i = if i = k then 0 else f i + 1) : cnt g n (a + 1) + (if k < n ∧ a ≤ f k then 1 else 0) = cnt f n a := by
  induction n with
  | zero => simp [cnt]
  | succ n ih =>
    have ih := ih fun i hi => h i (by omega)
    have hn := h n (by omega)
    rw [cnt_succ, cnt_succ]
    by_cases e : n = k
    · subst e
      rw [if_pos rfl] at hn
      have h1 : ¬ (a + 1 ≤ g n) := by omega
      have h2 : ¬ (n < n ∧ a ≤ f n) := by omega
      rw [if_neg h2] at ih
      rw [if_neg h1]
      by_cases h3 : a ≤ f n
      · rw [if_pos ⟨by omega, h3⟩, if_pos h3]; omega
      · rw [if_neg (fun h => h3 h.2), if_neg h3]; omega
    · rw [if_neg e] at hn
      have h1 : (a + 1 ≤ g n) ↔ (a ≤ f n) := by omega
      have h2 : (k < n + 1 ∧ a ≤ f k) ↔ (k < n ∧ a ≤ f k) := by
        constructor
        · rintro ⟨x, y⟩; exact ⟨by omega, y⟩
        · rintro ⟨x, y⟩; exact ⟨by omega, y⟩
      simp only [h1, h2]
      omega
theorem cnt_pos (f : Nat → Int) (n : Nat) (a : Int) (h : 0 < cnt f n a) : ∃ i, i < n ∧ a ≤ f i := by
  unfold cnt at h
  obtain ⟨i, hi, hp⟩ := List.countP_pos_iff.1 h
  exact ⟨i, List.mem_range.1 hi, by simpa using hp⟩
theorem cnt_zero (f : Nat → Int) (n : Nat) (a : Int) (h : cnt f n a = 0) (i : Nat) (hi : i < n) : f i < a := by
  unfold cnt at h
  have := List.countP_eq_zero.1 h i (List.mem_range.2 hi)
  simpa using this

def ageOf (l : List One) (i : Nat) : Int := (ith l i).age

/-- Who waits for 16 and j more picks: at least j + 1 fewer than all. -/
def Fair (l : List One) : Prop := ∀ j : Nat, cnt (ageOf l) l.length (16 + (j : Int)) = 0 ∨ cnt (ageOf l) l.length (16 + (j : Int)) + j + 1 ≤ l.length

theorem fair_step (l : List One) (h : AllRun l) (h0 : 0 < l.length) (n : Int) (hf : Fair l) : Fair (pickL l n) := by
  have hg : ∀ i, i < l.length → ageOf (pickL l n) i = if i = pickK l n then 0 else ageOf l i + 1 := by
    intro i hi
    unfold ageOf
    rw [pickL_get l h h0 n i hi]
  obtain ⟨hk, hmax, _⟩ := pick_facts l h h0 n
  intro j
  rw [pickL_length]
  cases j with
  | zero =>
    right
    have hs := cnt_step (ageOf l) (ageOf (pickL l n)) (pickK l n) 15 (by omega) l.length hg
    have h1 : cnt (ageOf l) l.length 15 ≤ l.length := by
      unfold cnt
      have := List.countP_le_length (p := fun i => decide ((15 : Int) ≤ ageOf l i)) (l := List.range l.length)
      simpa using this
    show cnt _ _ (16 + ((0 : Nat) : Int)) + 0 + 1 ≤ _
    rw [show (16 + ((0 : Nat) : Int)) = 15 + 1 by rfl]
    by_cases h2 : (15 : Int) ≤ ageOf l (pickK l n)
    · rw [if_pos ⟨hk, h2⟩] at hs; omega
    · rw [if_neg (fun h => h2 h.2)] at hs
      -- the one who is picked is of age 0 now
      have h3 : cnt (ageOf l) l.length 15 + 1 ≤ l.length := by
        rcases Nat.lt_or_ge (cnt (ageOf l) l.length 15) l.length with hlt | hge
        · exact hlt
        · have he : cnt (ageOf l) l.length 15 = (List.range l.length).length := by simp; omega
          unfold cnt at he
          have := (List.countP_eq_length.1 he) (pickK l n) (List.mem_range.2 hk)
          exact absurd (by simpa using this) h2
      omega
  | succ j =>
    have hs := cnt_step (ageOf l) (ageOf (pickL l n)) (pickK l n) (16 + (j : Int)) (by omega) l.length hg
    rw [show (16 + ((j + 1 : Nat) : Int)) = 16 + (j : Int) + 1 by omega]
    rcases hf j with h1 | h1
    · left; omega
    · rcases Nat.eq_zero_or_pos (cnt (ageOf l) l.length (16 + (j : Int))) with h2 | h2
      · left; omega
      · obtain ⟨i, hi, hia⟩ := cnt_pos _ _ _ h2
        have hm := hmax ⟨i, hi, by unfold ageOf at hia; omega⟩ i hi
        rw [if_pos ⟨hk, by unfold ageOf at hia ⊢; omega⟩] at hs
        right; omega

theorem fair_bound (l : List One) (h0 : 0 < l.length) (hf : Fair l) (i : Nat) (hi : i < l.length) : (ith l i).age ≤ 16 + (l.length : Int) - 2 := by
  rcases hf (l.length - 1) with h | h
  · have := cnt_zero _ _ _ h i hi
    unfold ageOf at this
    omega
  · have := cnt_zero _ _ _ (show cnt (ageOf l) l.length (16 + ((l.length - 1 : Nat) : Int)) = 0 by omega) i hi
    unfold ageOf at this
    omega

theorem lst_all (k : Nat) : AllRun (lst k) := by
  intro i hi
  rw [lst_length] at hi
  rw [lst_ith k i hi]
  exact ⟨rfl, rfl⟩
theorem lst_fair (k : Nat) : Fair (lst k) := by
  intro j
  left
  unfold cnt
  refine List.countP_eq_zero.2 fun i hi => ?_
  rw [List.mem_range, lst_length] at hi
  unfold ageOf
  rw [lst_ith k i hi]
  simp; omega

/-- Behind i picks: who is there, and when each was picked last. -/
structure FairAt (n i : Nat) (l : List One) (last : List Int) : Prop where
  len : l.length = n
  all : AllRun l
  fair : Fair l
  llen : last.length = n
  ages : ∀ j, j < n → (ith l j).age = (i : Int) - last.getD j 0 ∧ 0 ≤ last.getD j 0 ∧ last.getD j 0 ≤ i

theorem fair_at_start (n : Nat) : FairAt n 0 (lst n) (List.replicate n 0) := by
  refine ⟨lst_length n, lst_all n, lst_fair n, by simp, fun j hj => ?_⟩
  rw [lst_ith n j hj, List.getD_eq_getElem?_getD, List.getElem?_replicate, if_pos hj]
  simp

theorem fair_at_step {n i : Nat} {l : List One} {last : List Int} (hn : 0 < n) (h : FairAt n i l last) (p : Int) : FairAt n (i + 1) (pickL l p) (last.set (pickK l p) ((i : Int) + 1)) ∧ pickK l p < n ∧ ith l (pickK l p) = ⟨(pickK l p : Int), true, (ith l (pickK l p)).age⟩ := by
  have hlen := h.len
  have h0 : 0 < l.length := by omega
  obtain ⟨hk, _, _⟩ := pick_facts l h.all h0 p
  refine ⟨⟨by rw [pickL_length]; exact hlen, pickL_all l h.all h0 p, fair_step l h.all h0 p h.fair, by rw [List.length_set]; exact h.llen, fun j hj => ?_⟩, by omega, ?_⟩
  · rw [pickL_get l h.all h0 p j (by omega), getD_set _ _ _ _ _ (by rw [h.llen]; omega)]
    have ha := h.ages j hj
    by_cases e : j = pickK l p
    · subst e
      rw [if_pos rfl, if_pos rfl]
      refine ⟨?_, ?_, ?_⟩
      · show (0 : Int) = _
        push_cast; omega
      · omega
      · push_cast; omega
    · rw [if_neg e, if_neg (fun e' => e e'.symm)]
      refine ⟨?_, ?_, ?_⟩
      · show (ith l j).age + 1 = _
        push_cast; omega
      · omega
      · push_cast; omega
  · have := h.all (pickK l p) (by omega)
    cases hx : ith l (pickK l p)
    rw [hx] at this
    simp at this
    simp [this]

theorem fair_at_bound {n i : Nat} {l : List One} {last : List Int} (hn : 0 < n) (h : FairAt n i l last) (j : Nat) (hj : j < n) : (i : Int) - last.getD j 0 ≤ 16 + (n : Int) := by
  have hlen := h.len
  have hb := fair_bound l (by omega) h.fair j (by omega)
  have ha := h.ages j hj
  omega

theorem fair_at_ages {n i : Nat} {l : List One} {last : List Int} (h : FairAt n i l last) : AgesLe l i := by
  intro j hj
  have hlen := h.len
  have ha := h.ages j (by omega)
  omega

end Go.Proofs.Ytjbjkkicfdaljaa
