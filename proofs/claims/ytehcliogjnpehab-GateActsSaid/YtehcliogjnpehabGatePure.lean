/- The gate, as lists of numbers: what each method does. Plain lists and numbers alone. -/
import GoSem.Core.Value
namespace Go.Proofs.Ytehcliogjnpehab

def gi (l : List Int) (j : Nat) : Int := l.getD j 0
theorem gi_get (l : List Int) (i : Nat) (h : i < l.length) : gi l i = l[i] := by
  unfold gi; rw [List.getD_eq_getElem?_getD, List.getElem?_eq_getElem h]; rfl
theorem gi_take (l : List Int) (j : Nat) (h : j < l.length) : l.take (j + 1) = l.take j ++ [gi l j] := by
  rw [List.take_succ_eq_append_getElem h, gi_get l j h]
theorem gi_mem (l : List Int) (i : Nat) (h : i < l.length) : gi l i ∈ l := by rw [gi_get l i h]; exact List.getElem_mem h
theorem gi_drop (l : List Int) (j : Nat) (h : j < l.length) : l.drop j = gi l j :: l.drop (j + 1) := by
  rw [List.drop_eq_getElem_cons h, gi_get l j h]
theorem gi_set (l : List Int) (x : Int) (i j : Nat) (hi : i < l.length) : gi (l.set i x) j = if i = j then x else gi l j := by
  unfold gi
  rw [List.getD_eq_getElem?_getD, List.getElem?_set, List.getD_eq_getElem?_getD]
  by_cases h : i = j
  · subst h; simp [hi]
  · simp [h]

/-! ### Where a number is -/
def pos (l : List Int) (x : Int) : Nat := l.findIdx fun y => y == x
def posI (l : List Int) (x : Int) : Int := if pos l x < l.length then (pos l x : Int) else -1
theorem pos_hit (l : List Int) (x : Int) (k : Nat) (hk : k < l.length) (h0 : ∀ j, j < k → (gi l j == x) = false) (h1 : (gi l k == x) = true) : pos l x = k := by
  unfold pos
  rw [List.findIdx_eq hk]
  refine ⟨by rw [gi_get l k hk] at h1; exact h1, fun j hj => ?_⟩
  have := h0 j hj
  rw [gi_get l j (by omega)] at this
  simpa using this
theorem pos_miss (l : List Int) (x : Int) (h0 : ∀ j, j < l.length → (gi l j == x) = false) : pos l x = l.length := by
  unfold pos
  rw [List.findIdx_eq_length]
  intro y hy
  obtain ⟨i, hi, rfl⟩ := List.getElem_of_mem hy
  have := h0 i hi
  rw [gi_get l i hi] at this
  simpa using this
theorem posI_hit (l : List Int) (x : Int) (k : Nat) (hk : k < l.length) (h0 : ∀ j, j < k → (gi l j == x) = false) (h1 : (gi l k == x) = true) : posI l x = k := by
  unfold posI; rw [pos_hit l x k hk h0 h1, if_pos hk]
theorem posI_miss (l : List Int) (x : Int) (h0 : ∀ j, j < l.length → (gi l j == x) = false) : posI l x = -1 := by
  unfold posI; rw [pos_miss l x h0, if_neg (by omega)]
theorem pos_lt (l : List Int) (x : Int) : pos l x < l.length ↔ x ∈ l := by
  unfold pos
  rw [List.findIdx_lt_length]
  simp
theorem posI_ge (l : List Int) (x : Int) : decide (0 ≤ posI l x) = decide (x ∈ l) := by
  unfold posI
  by_cases h : pos l x < l.length
  · rw [if_pos h]; have := (pos_lt l x).1 h; simp [this]
  · rw [if_neg h]; have h2 : x ∉ l := fun h3 => h ((pos_lt l x).2 h3); simp [h2]

/-! ### All but one -/
def but (l : List Int) (x : Int) : List Int := l.filter fun y => !(y == x)
theorem but_none (l : List Int) (x : Int) (h : x ∉ l) : but l x = l := by
  unfold but
  rw [List.filter_eq_self]
  intro y hy
  have : y ≠ x := fun e => h (e ▸ hy)
  simpa using this
theorem but_take (l : List Int) (x : Int) (j : Nat) (h : j < l.length) : but (l.take (j + 1)) x = but (l.take j) x ++ if (gi l j == x) = true then [] else [gi l j] := by
  rw [gi_take l j h]
  unfold but
  rw [List.filter_append]
  by_cases e : (gi l j == x) = true
  · simp [e]
  · simp [e]
theorem but_length (l : List Int) (x : Int) : (but l x).length ≤ l.length := List.length_filter_le ..
theorem but_take_length (l : List Int) (x : Int) (j : Nat) : (but (l.take j) x).length ≤ j := by
  have := but_length (l.take j) x
  rw [List.length_take] at this
  omega
theorem mem_but (l : List Int) (x y : Int) : y ∈ but l x ↔ y ∈ l ∧ y ≠ x := by
  unfold but; simp
theorem but_pos (l : List Int) (x : Int) (k : Nat) (hk : k = pos l x) : but (l.take k) x = l.take k := by
  refine but_none _ _ fun hm => ?_
  obtain ⟨j, hj, e⟩ := List.getElem_of_mem hm
  have hj2 : j < k := by rw [List.length_take] at hj; omega
  rw [List.getElem_take] at e
  have h4 := List.not_of_lt_findIdx (p := fun y => y == x) (xs := l) (i := j) (by rw [hk] at hj2; exact hj2)
  rw [e] at h4
  simp at h4

/-! ### The gate -/
structure G where
  t : Nat
  r : Nat
  i : List Int
  w : List Int
  deriving DecidableEq

def askA (g : G) (x : Int) : Int := if x ∈ g.i then 1 else if x ∈ g.w then 2 else if g.i.length < g.t then 1 else if g.w.length < g.r then 2 else 0
def askG (g : G) (x : Int) : G := if x ∈ g.i then g else if x ∈ g.w then g else if g.i.length < g.t then ⟨g.t, g.r, g.i ++ [x], g.w⟩ else if g.w.length < g.r then ⟨g.t, g.r, g.i, g.w ++ [x]⟩ else g
def many (g : G) (x : Int) : Nat := Nat.min (g.t - (but g.i x).length) (but g.w x).length
def leaveL (g : G) (x : Int) : List Int := (but g.w x).take (many g x)
def leaveG (g : G) (x : Int) : G := ⟨g.t, g.r, but g.i x ++ leaveL g x, (but g.w x).drop (many g x)⟩

/-- What holds of each gate. -/
structure G.ok (g : G) : Prop where
  t1 : 1 ≤ g.t
  t16 : g.t ≤ 16
  r64 : g.r ≤ 64
  it : g.i.length ≤ g.t
  wr : g.w.length ≤ g.r
  full : g.w ≠ [] → g.i.length = g.t
  once : (g.i ++ g.w).Nodup

def clampT (x : Int) : Nat := if x < 1 then 1 else if 16 < x then 16 else x.toNat
def clampR (x : Int) : Nat := if x < 0 then 0 else if 64 < x then 64 else x.toNat
def newG (t r : Int) : G := ⟨clampT t, clampR r, [], []⟩
theorem newG_ok (t r : Int) : (newG t r).ok := by
  refine ⟨?_, ?_, ?_, ?_, ?_, fun h => absurd rfl h, List.nodup_nil⟩
  · show 1 ≤ clampT t; unfold clampT; split <;> (try split) <;> omega
  · show clampT t ≤ 16; unfold clampT; split <;> (try split) <;> omega
  · show clampR r ≤ 64; unfold clampR; split <;> (try split) <;> omega
  · exact Nat.zero_le _
  · exact Nat.zero_le _

theorem askG_ok (g : G) (x : Int) (h : g.ok) : (askG g x).ok := by
  unfold askG
  split
  · exact h
  · rename_i h1
    split
    · exact h
    · rename_i h2
      split
      · rename_i h3
        have hw : g.w = [] := by
          rcases hw : g.w with _ | ⟨y, ys⟩
          · rfl
          · have := h.full (by rw [hw]; simp); omega
        refine ⟨h.t1, h.t16, h.r64, by simp; omega, h.wr, fun h5 => absurd hw h5, ?_⟩
        rw [hw]
        have h6 := h.once
        rw [hw, List.append_nil] at h6
        rw [List.append_nil, List.nodup_append]
        exact ⟨h6, by simp, fun a ha b hb => by simp at hb; subst hb; exact fun e => h1 (e ▸ ha)⟩
      · split
        · rename_i h3 h4
          refine ⟨h.t1, h.t16, h.r64, h.it, by simp; omega, fun _ => by have := h.it; show g.i.length = g.t; omega, ?_⟩
          rw [← List.append_assoc, List.nodup_append]
          refine ⟨h.once, by simp, fun a ha b hb => ?_⟩
          simp at hb; subst hb
          rcases List.mem_append.1 ha with h7 | h7
          · exact fun e => h1 (e ▸ h7)
          · exact fun e => h2 (e ▸ h7)
        · exact h

theorem leave_all (g : G) (x : Int) : (leaveG g x).i ++ (leaveG g x).w = but (g.i ++ g.w) x := by
  show (but g.i x ++ (but g.w x).take (many g x)) ++ (but g.w x).drop (many g x) = _
  rw [List.append_assoc, List.take_append_drop]
  unfold but
  rw [List.filter_append]
theorem many_le (g : G) (x : Int) : many g x ≤ (but g.w x).length := Nat.min_le_right ..
theorem many_le' (g : G) (x : Int) : many g x ≤ g.t - (but g.i x).length := Nat.min_le_left ..
theorem leaveG_ok (g : G) (x : Int) (h : g.ok) : (leaveG g x).ok := by
  have h1 := but_length g.i x
  have h2 := but_length g.w x
  have h3 := many_le g x
  have h4 := many_le' g x
  have h5 := h.it
  have h6 := h.wr
  refine ⟨h.t1, h.t16, h.r64, ?_, ?_, fun hne => ?_, ?_⟩
  · show (but g.i x ++ (but g.w x).take (many g x)).length ≤ g.t
    rw [List.length_append, List.length_take]; omega
  · show ((but g.w x).drop (many g x)).length ≤ g.r
    rw [List.length_drop]; omega
  · show (but g.i x ++ (but g.w x).take (many g x)).length = g.t
    have h7 : many g x < (but g.w x).length := by
      rcases Nat.lt_or_ge (many g x) (but g.w x).length with h8 | h8
      · exact h8
      · exact absurd (List.drop_eq_nil_of_le h8) hne
    have h8 : many g x = g.t - (but g.i x).length := by
      unfold many at h7 ⊢
      rcases Nat.le_total (g.t - (but g.i x).length) (but g.w x).length with h9 | h9
      · exact Nat.min_eq_left h9
      · rw [show Nat.min (g.t - (but g.i x).length) (but g.w x).length = (but g.w x).length from Nat.min_eq_right h9] at h7; omega
    rw [List.length_append, List.length_take, Nat.min_eq_left h3]; omega
  · rw [leave_all]
    exact List.Pairwise.filter _ h.once

end Go.Proofs.Ytehcliogjnpehab
