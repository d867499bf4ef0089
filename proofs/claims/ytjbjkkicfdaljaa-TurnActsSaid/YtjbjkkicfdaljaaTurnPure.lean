/- The table of who has a turn, as a list; what the program's methods do to it. Plain lists and numbers alone. -/
import GoSem.Core.Value
namespace Go.Proofs.Ytjbjkkicfdaljaa

theorem take_succ_getD {α : Type} (l : List α) (z : α) (j : Nat) (h : j < l.length) : l.take (j + 1) = l.take j ++ [l.getD j z] := by
  rw [List.take_succ_eq_append_getElem h, List.getD_eq_getElem?_getD, List.getElem?_eq_getElem h]
  rfl
theorem getD_set {α : Type} (l : List α) (z x : α) (i j : Nat) (hi : i < l.length) : (l.set i x).getD j z = if i = j then x else l.getD j z := by
  rw [List.getD_eq_getElem?_getD, List.getElem?_set, List.getD_eq_getElem?_getD]
  by_cases h : i = j
  · subst h; simp [hi]
  · simp [h]
theorem getD_get {α : Type} (l : List α) (z : α) (i : Nat) (h : i < l.length) : l.getD i z = l[i] := by
  rw [List.getD_eq_getElem?_getD, List.getElem?_eq_getElem h]; rfl
theorem getD_mem {α : Type} (l : List α) (z : α) (i : Nat) (h : i < l.length) : l.getD i z ∈ l := by
  rw [getD_get l z i h]; exact List.getElem_mem h

structure One where
  id : Int
  runs : Bool
  age : Int
  deriving Inhabited, DecidableEq

def One.z : One := ⟨0, false, 0⟩
def One.cells (x : One) : List Value := [.int .i64 x.id, .bool x.runs, .int .i64 x.age]
def flat (l : List One) : List Value := l.flatMap One.cells
def ith (l : List One) (i : Nat) : One := l.getD i One.z
def nth (l : List Nat) (i : Nat) : Nat := l.getD i 0
def withAge (x : One) (a : Int) : One := ⟨x.id, x.runs, a⟩
def withRuns (x : One) (a : Bool) : One := ⟨x.id, a, x.age⟩

theorem ith_succ (x : One) (l : List One) (i : Nat) : ith (x :: l) (i + 1) = ith l i := rfl
theorem ith_zero (x : One) (l : List One) : ith (x :: l) 0 = x := rfl
theorem ith_get (l : List One) (i : Nat) (h : i < l.length) : ith l i = l[i] := getD_get l _ i h
theorem ith_set (l : List One) (x : One) (i j : Nat) (hi : i < l.length) : ith (l.set i x) j = if i = j then x else ith l j := getD_set l _ x i j hi
theorem nth_get (l : List Nat) (i : Nat) (h : i < l.length) : nth l i = l[i] := getD_get l _ i h
theorem nth_mem (l : List Nat) (i : Nat) (h : i < l.length) : nth l i ∈ l := getD_mem l _ i h

theorem flat_length (l : List One) : (flat l).length = l.length * 3 := by
  unfold flat
  induction l with
  | nil => rfl
  | cons x l ih => simp only [List.flatMap_cons, List.length_append, List.length_cons, ih, One.cells, List.length_nil]; omega

theorem flat_cons (x : One) (l : List One) : flat (x :: l) = .int .i64 x.id :: .bool x.runs :: .int .i64 x.age :: flat l := rfl
theorem flat_append (a b : List One) : flat (a ++ b) = flat a ++ flat b := by simp [flat, List.flatMap_append]

theorem flat_get (l : List One) : ∀ i, i < l.length → (flat l)[i * 3]? = some (.int .i64 (ith l i).id) ∧ (flat l)[i * 3 + 1]? = some (.bool (ith l i).runs) ∧ (flat l)[i * 3 + 2]? = some (.int .i64 (ith l i).age) := by
  induction l with
  | nil => intro i h; simp at h
  | cons x l ih =>
    intro i h
    cases i with
    | zero => simp [flat_cons, ith_zero]
    | succ i =>
      have hl : i < l.length := by simpa using h
      have := ih i hl
      rw [show (i + 1) * 3 = i * 3 + 1 + 1 + 1 by omega, flat_cons, ith_succ]
      simpa using this

theorem flat_set_age (l : List One) (a : Int) : ∀ i, i < l.length → (flat l).set (i * 3 + 2) (.int .i64 a) = flat (l.set i (withAge (ith l i) a)) := by
  induction l with
  | nil => intro i h; simp at h
  | cons x l ih =>
    intro i h
    cases i with
    | zero => simp [flat_cons, ith_zero, withAge]
    | succ i =>
      have hl : i < l.length := by simpa using h
      have := ih i hl
      rw [show (i + 1) * 3 + 2 = i * 3 + 2 + 1 + 1 + 1 by omega, flat_cons]
      simp only [List.set_cons_succ, this, ith_succ, flat_cons]

theorem flat_set_runs (l : List One) (a : Bool) : ∀ i, i < l.length → (flat l).set (i * 3 + 1) (.bool a) = flat (l.set i (withRuns (ith l i) a)) := by
  induction l with
  | nil => intro i h; simp at h
  | cons x l ih =>
    intro i h
    cases i with
    | zero => simp [flat_cons, ith_zero, withRuns]
    | succ i =>
      have hl : i < l.length := by simpa using h
      have := ih i hl
      rw [show (i + 1) * 3 + 1 = i * 3 + 1 + 1 + 1 + 1 by omega, flat_cons]
      simp only [List.set_cons_succ, this, ith_succ, flat_cons]

theorem flat_eraseIdx (l : List One) : ∀ i, i < l.length → (flat l).take (i * 3) ++ (flat l).drop (i * 3 + 3) = flat (l.eraseIdx i) := by
  induction l with
  | nil => intro i h; simp at h
  | cons x l ih =>
    intro i h
    cases i with
    | zero => simp [flat_cons]
    | succ i =>
      have hl : i < l.length := by simpa using h
      have := ih i hl
      rw [show (i + 1) * 3 = i * 3 + 1 + 1 + 1 by omega, show i * 3 + 1 + 1 + 1 + 3 = i * 3 + 3 + 1 + 1 + 1 by omega, flat_cons]
      simp only [List.take_succ_cons, List.drop_succ_cons, List.cons_append, this, List.eraseIdx_cons_succ, flat_cons]

/-! ### Where one is -/
def idx (l : List One) (id : Int) : Nat := l.findIdx (fun x => x.id == id)
def idxI (l : List One) (id : Int) : Int := if idx l id < l.length then (idx l id : Int) else -1
def hasId (l : List One) (id : Int) : Bool := l.any (fun x => x.id == id)

theorem idx_hit (l : List One) (id : Int) (k : Nat) (hk : k < l.length) (h0 : ∀ j, j < k → ((ith l j).id == id) = false) (h1 : ((ith l k).id == id) = true) : idx l id = k := by
  unfold idx
  rw [List.findIdx_eq hk]
  refine ⟨?_, fun j hj => ?_⟩
  · rw [ith_get l k hk] at h1; exact h1
  · have := h0 j hj
    rw [ith_get l j (by omega)] at this
    exact this

theorem idx_miss (l : List One) (id : Int) (h0 : ∀ j, j < l.length → ((ith l j).id == id) = false) : idx l id = l.length := by
  unfold idx
  refine List.findIdx_eq_length.2 fun x hx => ?_
  obtain ⟨j, hj, rfl⟩ := List.mem_iff_getElem.1 hx
  have := h0 j hj
  rw [ith_get l j hj] at this
  exact this

theorem idxI_hit (l : List One) (id : Int) (k : Nat) (hk : k < l.length) (h0 : ∀ j, j < k → ((ith l j).id == id) = false) (h1 : ((ith l k).id == id) = true) : idxI l id = k := by
  unfold idxI
  rw [idx_hit l id k hk h0 h1, if_pos hk]
theorem idxI_miss (l : List One) (id : Int) (h0 : ∀ j, j < l.length → ((ith l j).id == id) = false) : idxI l id = -1 := by
  unfold idxI
  rw [idx_miss l id h0, if_neg (Nat.lt_irrefl _)]
theorem idx_lt_iff (l : List One) (id : Int) : idx l id < l.length ↔ hasId l id = true := by
  unfold idx hasId
  rw [List.findIdx_lt_length, List.any_eq_true]

/-! ### The places of those that run; who is picked -/
def plcTo (l : List One) (k : Nat) : List Nat := (List.range k).filter fun i => (ith l i).runs
def plc (l : List One) : List Nat := plcTo l l.length
theorem plcTo_succ (l : List One) (k : Nat) : plcTo l (k + 1) = plcTo l k ++ if (ith l k).runs then [k] else [] := by
  unfold plcTo
  rw [List.range_succ, List.filter_append]
  congr 1
  cases h : (ith l k).runs <;> simp [h]
theorem plcTo_length (l : List One) (k : Nat) : (plcTo l k).length ≤ k := by
  unfold plcTo
  have := List.length_filter_le (fun i => (ith l i).runs) (List.range k)
  simpa using this
theorem plc_mem (l : List One) (i : Nat) : i ∈ plc l ↔ i < l.length ∧ (ith l i).runs = true := by simp [plc, plcTo]
theorem plc_lt (l : List One) (j : Nat) (h : j < (plc l).length) : nth (plc l) j < l.length := ((plc_mem l _).1 (nth_mem _ j h)).1
theorem plc_length (l : List One) : (plc l).length ≤ l.length := plcTo_length l _
theorem plc_nodup (l : List One) : (plc l).Nodup := by
  unfold plc plcTo
  exact List.Nodup.sublist (List.filter_sublist) List.nodup_range
theorem plc_new (l : List One) (j : Nat) (h : j < (plc l).length) : nth (plc l) j ∉ (plc l).take j := by
  have hn := plc_nodup l
  rw [← List.take_append_drop j (plc l), List.nodup_append] at hn
  intro hm
  refine hn.2.2 _ hm _ ?_ rfl
  rw [List.drop_eq_getElem_cons (by omega), nth_get _ _ h]
  exact List.mem_cons_self ..

def pstep (l : List One) (s : Nat × Int) (i : Nat) : Nat × Int := if s.2 < (ith l i).age then (i, (ith l i).age) else s
/-- The place that Pick's number names. -/
def place (l : List One) (n : Int) : Nat := (n % ((plc l).length : Int)).toNat
def pickTo (l : List One) (n : Int) (j : Nat) : Nat × Int := ((plc l).take j).foldl (pstep l) (nth (plc l) (place l n), 15)
def pickK (l : List One) (n : Int) : Nat := (pickTo l n (plc l).length).1
theorem place_lt (l : List One) (n : Int) (h0 : 0 < (plc l).length) : place l n < (plc l).length := by
  have h1 : (n % ((plc l).length : Int)) < (plc l).length := Int.emod_lt_of_pos _ (by omega)
  have h2 : 0 ≤ (n % ((plc l).length : Int)) := Int.emod_nonneg _ (by omega)
  unfold place
  omega
theorem pickTo_zero (l : List One) (n : Int) : pickTo l n 0 = (nth (plc l) (place l n), 15) := rfl
theorem pickTo_succ (l : List One) (n : Int) (j : Nat) (h : j < (plc l).length) : pickTo l n (j + 1) = pstep l (pickTo l n j) (nth (plc l) j) := by
  unfold pickTo
  rw [take_succ_getD _ 0 _ h, List.foldl_append]
  rfl
theorem pickTo_mem (l : List One) (n : Int) (h0 : 0 < (plc l).length) (j : Nat) (h : j ≤ (plc l).length) : (pickTo l n j).1 ∈ plc l := by
  induction j with
  | zero => exact nth_mem _ _ (place_lt l n h0)
  | succ j ih =>
    rw [pickTo_succ l n j (by omega)]
    unfold pstep
    split
    · exact nth_mem _ j (by omega)
    · exact ih (by omega)
theorem pickTo_lt (l : List One) (n : Int) (h0 : 0 < (plc l).length) (j : Nat) (h : j ≤ (plc l).length) : (pickTo l n j).1 < l.length :=
  ((plc_mem l _).1 (pickTo_mem l n h0 j h)).1

def ageUp (l : List One) (i : Nat) : List One := l.set i (withAge (ith l i) ((ith l i).age + 1))
def bumpTo (l : List One) (j : Nat) : List One := ((plc l).take j).foldl ageUp l
def bump (l : List One) : List One := bumpTo l (plc l).length
theorem ageUp_length (l : List One) (i : Nat) : (ageUp l i).length = l.length := by simp [ageUp]
theorem bumpTo_zero (l : List One) : bumpTo l 0 = l := rfl
theorem bumpTo_succ (l : List One) (j : Nat) (h : j < (plc l).length) : bumpTo l (j + 1) = ageUp (bumpTo l j) (nth (plc l) j) := by
  unfold bumpTo
  rw [take_succ_getD _ 0 _ h, List.foldl_append]
  rfl
theorem bumpTo_length (l : List One) (j : Nat) (h : j ≤ (plc l).length) : (bumpTo l j).length = l.length := by
  induction j with
  | zero => rfl
  | succ j ih => rw [bumpTo_succ l j (by omega), ageUp_length, ih (by omega)]
/-- Behind j rounds just those of the first j places are one older. -/
theorem bumpTo_get (l : List One) (j : Nat) (h : j ≤ (plc l).length) : ∀ i, ith (bumpTo l j) i = if i ∈ (plc l).take j then withAge (ith l i) ((ith l i).age + 1) else ith l i := by
  induction j with
  | zero => intro i; simp [bumpTo]
  | succ j ih =>
    intro i
    have hlt := plc_lt l j (by omega)
    have hnot := plc_new l j (by omega)
    have ih := ih (by omega)
    rw [bumpTo_succ l j (by omega), take_succ_getD _ 0 _ (by omega)]
    unfold ageUp
    rw [ith_set _ _ _ _ (by rw [bumpTo_length l j (by omega)]; exact hlt)]
    by_cases e : nth (plc l) j = i
    · subst e
      rw [if_pos rfl, if_pos (by simp [nth]), ih, if_neg hnot]
    · rw [if_neg e, ih]
      have : i ∈ (plc l).take j ++ [(plc l).getD j 0] ↔ i ∈ (plc l).take j := by
        rw [List.mem_append, List.mem_singleton]
        exact ⟨fun h => h.elim id fun h => absurd h.symm e, .inl⟩
      simp only [this]

/-- Every age lies in these bounds. -/
def AgesLe (l : List One) (M : Int) : Prop := ∀ i, i < l.length → 0 ≤ (ith l i).age ∧ (ith l i).age ≤ M
theorem bumpTo_ages (l : List One) (M : Int) (hM : AgesLe l M) (j : Nat) (h : j ≤ (plc l).length) : AgesLe (bumpTo l j) (M + 1) := by
  intro i hi
  rw [bumpTo_length l j h] at hi
  have := hM i hi
  rw [bumpTo_get l j h i]
  split
  · simp only [withAge]; omega
  · omega

/-- What Pick leaves. -/
def pickL (l : List One) (n : Int) : List One := (bump l).set (pickK l n) (withAge (ith (bump l) (pickK l n)) 0)

end Go.Proofs.Ytjbjkkicfdaljaa
