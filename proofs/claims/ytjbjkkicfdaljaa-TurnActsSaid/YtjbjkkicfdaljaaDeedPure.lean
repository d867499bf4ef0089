/- Deeds on a table, as lists; what every deed keeps. Plain lists and numbers alone. -/
import Derived.Test.YtjbjkkicfdaljaaFairPure
namespace Go.Proofs.Ytjbjkkicfdaljaa

structure Deed where
  kind : Int
  id : Int
  runs : Bool
  n : Int
  deriving Inhabited

/-- What Add, Set, Drop leave. -/
def addL (l : List One) (id : Int) (r : Bool) : List One := if idx l id < l.length then l else l ++ [⟨id, r, 0⟩]
def setL (l : List One) (id : Int) (r : Bool) : List One := if idx l id < l.length then (if (ith l (idx l id)).runs = r then l else l.set (idx l id) ⟨(ith l (idx l id)).id, r, 0⟩) else l
def dropL (l : List One) (id : Int) : List One := l.eraseIdx (idx l id)

/-- The number that a deed names. -/
def Deed.who (a : Deed) : Int := a.id % 12
def doL (l : List One) (a : Deed) : List One :=
  if a.kind % 6 = 0 then addL l a.who a.runs else if a.kind % 6 = 1 then setL l a.who a.runs else if a.kind % 6 = 2 then dropL l a.who
  else if (plc l).length = 0 then l else pickL l a.n
def doN (l : List One) (a : Deed) : Int := if a.kind % 6 = 0 ∨ a.kind % 6 = 1 ∨ a.kind % 6 = 2 ∨ (plc l).length = 0 then 0 else (ith l (pickK l a.n)).id
def doB (l : List One) (a : Deed) : Bool :=
  if a.kind % 6 = 0 then !hasId l a.who else if a.kind % 6 = 1 then hasId l a.who else if a.kind % 6 = 2 then hasId l a.who else decide (0 < (plc l).length)

/-! ### Lengths, ages -/
theorem addL_length (l : List One) (id : Int) (r : Bool) : (addL l id r).length ≤ l.length + 1 := by unfold addL; split <;> simp
theorem setL_length (l : List One) (id : Int) (r : Bool) : (setL l id r).length = l.length := by unfold setL; split <;> (try split) <;> simp
theorem dropL_length (l : List One) (id : Int) : (dropL l id).length ≤ l.length := by unfold dropL; exact List.length_eraseIdx_le l _
theorem doL_length (l : List One) (a : Deed) : (doL l a).length ≤ l.length + 1 := by
  unfold doL
  split
  · exact addL_length _ _ _
  · split
    · rw [setL_length]; omega
    · split
      · have := dropL_length l a.who; omega
      · split
        · omega
        · rw [pickL_length]; omega

/-- What holds of each element. -/
def Each (p : One → Prop) (l : List One) : Prop := ∀ x ∈ l, p x
theorem ith_mem (l : List One) (i : Nat) (h : i < l.length) : ith l i ∈ l := getD_mem l _ i h
theorem each_ith {p : One → Prop} {l : List One} (h : Each p l) (i : Nat) (hi : i < l.length) : p (ith l i) := h _ (ith_mem l i hi)
theorem each_of {p : One → Prop} {l : List One} (h : ∀ i, i < l.length → p (ith l i)) : Each p l := by
  intro x hx
  obtain ⟨i, hi, rfl⟩ := List.mem_iff_getElem.1 hx
  rw [← ith_get l i hi]
  exact h i hi
theorem ages_each (l : List One) (M : Int) : AgesLe l M ↔ Each (fun x => 0 ≤ x.age ∧ x.age ≤ M) l := ⟨fun h => each_of h, fun h i hi => each_ith h i hi⟩
theorem each_addL {p : One → Prop} {l : List One} (h : Each p l) (id : Int) (r : Bool) (h0 : p ⟨id, r, 0⟩) : Each p (addL l id r) := by
  unfold addL
  split
  · exact h
  · intro x hx
    rcases List.mem_append.1 hx with hx | hx
    · exact h x hx
    · rw [List.mem_singleton.1 hx]; exact h0
theorem each_setL {p : One → Prop} {l : List One} (h : Each p l) (id : Int) (r : Bool) (h0 : ∀ x, p x → p ⟨x.id, r, 0⟩) : Each p (setL l id r) := by
  unfold setL
  split
  · rename_i hi
    split
    · exact h
    · intro x hx
      rcases List.mem_or_eq_of_mem_set hx with hx | hx
      · exact h x hx
      · rw [hx]; exact h0 _ (each_ith h _ hi)
  · exact h
theorem each_dropL {p : One → Prop} {l : List One} (h : Each p l) (id : Int) : Each p (dropL l id) := fun x hx => h x (List.mem_of_mem_eraseIdx hx)
theorem pickK_lt (l : List One) (n : Int) (h : (plc l).length ≠ 0) : pickK l n < l.length := pickTo_lt l n (by omega) _ (Nat.le_refl _)
theorem each_bump {p q : One → Prop} {l : List One} (h : Each p l) (h1 : ∀ x, p x → q x) (h2 : ∀ x, p x → q (withAge x (x.age + 1))) : Each q (bump l) := by
  refine each_of fun i hi => ?_
  unfold bump at hi ⊢
  rw [bumpTo_length l _ (Nat.le_refl _)] at hi
  rw [bumpTo_get l _ (Nat.le_refl _) i]
  split
  · exact h2 _ (each_ith h i hi)
  · exact h1 _ (each_ith h i hi)
theorem each_pickL {p q : One → Prop} {l : List One} (h : Each p l) (n : Int) (hp : (plc l).length ≠ 0) (h1 : ∀ x, p x → q x) (h2 : ∀ x, p x → q (withAge x (x.age + 1))) (h3 : ∀ x, q x → q (withAge x 0)) : Each q (pickL l n) := by
  have hb := each_bump h h1 h2
  intro x hx
  unfold pickL at hx
  rcases List.mem_or_eq_of_mem_set hx with hx | hx
  · exact hb x hx
  · rw [hx]
    refine h3 _ (each_ith hb _ ?_)
    unfold bump
    rw [bumpTo_length l _ (Nat.le_refl _)]
    exact pickK_lt l n hp
theorem doL_ages (l : List One) (a : Deed) (M : Int) (hM : 0 ≤ M) (h : AgesLe l M) : AgesLe (doL l a) (M + 1) := by
  rw [ages_each] at h ⊢
  have hw : Each (fun x => 0 ≤ x.age ∧ x.age ≤ M + 1) l := fun x hx => by have := h x hx; omega
  unfold doL
  split
  · exact each_addL hw _ _ (by show (0 : Int) ≤ 0 ∧ (0 : Int) ≤ M + 1; omega)
  · split
    · exact each_setL hw _ _ (fun x _ => by show (0 : Int) ≤ 0 ∧ (0 : Int) ≤ M + 1; omega)
    · split
      · exact each_dropL hw _
      · split
        · exact hw
        · rename_i hp
          refine each_pickL h a.n hp (fun x hx => by omega) (fun x hx => ?_) (fun x hx => ?_)
          · show 0 ≤ x.age + 1 ∧ x.age + 1 ≤ M + 1; omega
          · show (0 : Int) ≤ 0 ∧ (0 : Int) ≤ M + 1; omega

/-! ### Behind several deeds -/
def doAll (as : List Deed) : List One := as.foldl doL []
theorem doAll_snoc (as : List Deed) (a : Deed) : doAll (as ++ [a]) = doL (doAll as) a := by unfold doAll; rw [List.foldl_append]; rfl
theorem doAll_facts (as : List Deed) : (doAll as).length ≤ as.length ∧ AgesLe (doAll as) as.length := by
  have key : ∀ (n : Nat) (as : List Deed), as.length = n → (doAll as).length ≤ n ∧ AgesLe (doAll as) n := by
    intro n
    induction n with
    | zero =>
      intro as h
      have : as = [] := List.eq_nil_of_length_eq_zero h
      subst this
      exact ⟨Nat.le_refl _, fun i hi => by simp [doAll] at hi⟩
    | succ n ih =>
      intro as h
      obtain ⟨bs, a, rfl⟩ : ∃ bs a, as = bs ++ [a] := by
        have hne : as ≠ [] := by intro e; subst e; simp at h
        exact ⟨as.dropLast, as.getLast hne, (List.dropLast_concat_getLast hne).symm⟩
      have hb : bs.length = n := by simpa using h
      obtain ⟨h1, h2⟩ := ih bs hb
      rw [doAll_snoc]
      have := doL_length (doAll bs) a
      have h3 := doL_ages (doAll bs) a n (by omega) h2
      exact ⟨by omega, by push_cast; exact h3⟩
  exact key as.length as rfl

theorem doAll_take (as : List Deed) (j : Nat) (h : j ≤ as.length) : (doAll (as.take j)).length ≤ j ∧ AgesLe (doAll (as.take j)) j := by
  have := doAll_facts (as.take j)
  rw [List.length_take, Nat.min_eq_left h] at this
  exact this

def dth (as : List Deed) (i : Nat) : Deed := as.getD i default
theorem take_dth (as : List Deed) (j : Nat) (h : j < as.length) : as.take (j + 1) = as.take j ++ [dth as j] := take_succ_getD as _ j h

/-! ### The numbers of all, of those that run -/
def idsTo (l : List One) (k : Nat) : List Int := (List.range k).map fun i => (ith l i).id
def idsOf (l : List One) : List Int := idsTo l l.length
def runsTo (l : List One) (k : Nat) : List Int := ((plc l).take k).map fun i => (ith l i).id
def runsOf (l : List One) : List Int := (plc l).map fun i => (ith l i).id
theorem idsTo_succ (l : List One) (k : Nat) : idsTo l (k + 1) = idsTo l k ++ [(ith l k).id] := by simp [idsTo, List.range_succ]
theorem idsTo_length (l : List One) (k : Nat) : (idsTo l k).length = k := by simp [idsTo]
theorem runsTo_succ (l : List One) (k : Nat) (h : k < (plc l).length) : runsTo l (k + 1) = runsTo l k ++ [(ith l (nth (plc l) k)).id] := by
  unfold runsTo
  rw [take_succ_getD _ 0 _ h, List.map_append]
  rfl
theorem runsTo_length (l : List One) (k : Nat) (h : k ≤ (plc l).length) : (runsTo l k).length = k := by simp [runsTo]; omega
theorem runsTo_all (l : List One) : runsTo l (plc l).length = runsOf l := by unfold runsTo runsOf; rw [List.take_length]
theorem runsOf_length (l : List One) : (runsOf l).length = (plc l).length := by simp [runsOf]
theorem runsOf_map (l : List One) : runsOf l = (l.filter (·.runs)).map (·.id) := by
  have key : ∀ k, k ≤ l.length → (plcTo l k).map (fun i => (ith l i).id) = ((l.take k).filter (·.runs)).map (·.id) := by
    intro k
    induction k with
    | zero => intro _; simp [plcTo]
    | succ k ih =>
      intro hk
      rw [plcTo_succ, take_succ_getD l One.z k (by omega), List.map_append, List.filter_append, List.map_append, ih (by omega)]
      congr 1
      show _ = List.map _ (List.filter _ [ith l k])
      cases h : (ith l k).runs <;> simp [h]
  have := key l.length (Nat.le_refl _)
  rw [List.take_length] at this
  exact this
theorem idsOf_map (l : List One) : idsOf l = l.map (·.id) := by
  refine List.ext_getElem (by rw [idsOf, idsTo_length, List.length_map]) fun i h1 h2 => ?_
  have hi : i < l.length := by simpa using h2
  simp only [idsOf, idsTo, List.getElem_map, List.getElem_range]
  rw [ith_get l i hi]

/-- Who is there under which number, and who runs: what a pick keeps. -/
def sig (l : List One) : List (Int × Bool) := l.map fun x => (x.id, x.runs)
theorem sig_set (l : List One) (i : Nat) (x : One) (h : (x.id, x.runs) = ((ith l i).id, (ith l i).runs)) : sig (l.set i x) = sig l := by
  unfold sig
  rw [List.map_set, h]
  rcases Nat.lt_or_ge i l.length with hi | hi
  · refine List.ext_getElem (by simp) fun j h1 h2 => ?_
    rw [List.getElem_set]
    split
    · rename_i e; subst e; rw [List.getElem_map, ith_get l i hi]
    · rfl
  · rw [List.set_eq_of_length_le (by simpa using hi)]
theorem sig_ageUp (l : List One) (i : Nat) : sig (ageUp l i) = sig l := sig_set l i _ rfl
theorem sig_bumpTo (l : List One) (j : Nat) (h : j ≤ (plc l).length) : sig (bumpTo l j) = sig l := by
  induction j with
  | zero => rfl
  | succ j ih => rw [bumpTo_succ l j (by omega), sig_ageUp, ih (by omega)]
theorem sig_pickL (l : List One) (n : Int) : sig (pickL l n) = sig l := by
  unfold pickL
  rw [sig_set (bump l) (pickK l n) (withAge (ith (bump l) (pickK l n)) 0) rfl]
  exact sig_bumpTo l _ (Nat.le_refl _)
theorem runsOf_sig (l : List One) : runsOf l = ((sig l).filter (·.2)).map (·.1) := by
  rw [runsOf_map]
  unfold sig
  induction l with
  | nil => rfl
  | cons x l ih =>
    simp only [List.map_cons, List.filter_cons]
    cases x.runs <;> simp [ih]
theorem idsOf_sig (l : List One) : idsOf l = (sig l).map (·.1) := by
  rw [idsOf_map]; unfold sig; rw [List.map_map]; rfl
theorem runsOf_pickL (l : List One) (n : Int) : runsOf (pickL l n) = runsOf l := by rw [runsOf_sig, sig_pickL, ← runsOf_sig]
theorem pick_in_runs (l : List One) (n : Int) (h : (plc l).length ≠ 0) : (ith l (pickK l n)).id ∈ runsOf l := by
  unfold runsOf
  exact List.mem_map.2 ⟨pickK l n, pickTo_mem l n (by omega) _ (Nat.le_refl _), rfl⟩

/-- Is a number among the first k? -/
def inTo (l : List Int) (x : Int) (k : Nat) : Bool := (l.take k).any fun y => y == x
theorem inTo_succ (l : List Int) (x : Int) (k : Nat) (h : k < l.length) : inTo l x (k + 1) = (inTo l x k || (l.getD k 0 == x)) := by
  unfold inTo
  rw [take_succ_getD l 0 k h, List.any_append]
  simp
theorem inTo_all (l : List Int) (x : Int) (h : x ∈ l) : inTo l x l.length = true := by
  unfold inTo
  rw [List.take_length, List.any_eq_true]
  exact ⟨x, h, by simp⟩

end Go.Proofs.Ytjbjkkicfdaljaa
