/- Nobody is there twice. Plain lists and numbers alone. -/
import Derived.Test.YtjbjkkicfdaljaaDeedPure
namespace Go.Proofs.Ytjbjkkicfdaljaa

theorem hasId_ids (l : List One) (x : Int) : hasId l x = true ↔ x ∈ idsOf l := by
  rw [idsOf_map]
  unfold hasId
  rw [List.any_eq_true]
  constructor
  · rintro ⟨y, hy, h⟩
    have : y.id = x := by simpa using h
    rw [← this]; exact List.mem_map.2 ⟨y, hy, rfl⟩
  · intro h
    obtain ⟨y, hy, rfl⟩ := List.mem_map.1 h
    exact ⟨y, hy, by simp⟩
theorem hasId_not (l : List One) (x : Int) : hasId l x = false ↔ x ∉ idsOf l := by
  rw [← hasId_ids]; simp
theorem idsOf_addL (l : List One) (x : Int) (r : Bool) : idsOf (addL l x r) = if x ∈ idsOf l then idsOf l else idsOf l ++ [x] := by
  unfold addL
  by_cases h : x ∈ idsOf l
  · rw [if_pos h, if_pos ((idx_lt_iff l x).2 ((hasId_ids l x).2 h))]
  · rw [if_neg h, if_neg (fun h2 => h ((hasId_ids l x).1 ((idx_lt_iff l x).1 h2)))]
    rw [idsOf_map, idsOf_map, List.map_append]; rfl
theorem idsOf_setL (l : List One) (x : Int) (r : Bool) : idsOf (setL l x r) = idsOf l := by
  unfold setL
  split
  · split
    · rfl
    · rename_i hi _
      rw [idsOf_map, idsOf_map, List.map_set]
      refine List.ext_getElem (by simp) fun j h1 h2 => ?_
      rw [List.getElem_set]
      split
      · rename_i e; subst e
        rw [List.getElem_map, ith_get l _ hi]
      · rfl
  · rfl
theorem idsOf_dropL (l : List One) (x : Int) : idsOf (dropL l x) = (idsOf l).erase x := by
  rw [idsOf_map, idsOf_map]
  unfold dropL idx
  induction l with
  | nil => rfl
  | cons y l ih =>
    rw [List.findIdx_cons, List.map_cons, List.erase_cons]
    by_cases h : (y.id == x) = true
    · simp [h]
    · have h' : (y.id == x) = false := by simpa using h
      rw [h']
      simp only [cond_false, List.eraseIdx_cons_succ, List.map_cons, ih]
      simp
theorem idsOf_pickL (l : List One) (n : Int) : idsOf (pickL l n) = idsOf l := by rw [idsOf_sig, sig_pickL, ← idsOf_sig]
theorem doL_nodup (l : List One) (a : Deed) (h : (idsOf l).Nodup) : (idsOf (doL l a)).Nodup := by
  unfold doL
  split
  · rw [idsOf_addL]
    split
    · exact h
    · rename_i hn
      rw [List.nodup_append]
      exact ⟨h, by simp, fun x hx y hy e => hn (by rw [List.mem_singleton.1 hy] at e; rw [← e]; exact hx)⟩
  · split
    · rw [idsOf_setL]; exact h
    · split
      · rw [idsOf_dropL]; exact List.Nodup.erase _ h
      · split
        · exact h
        · rw [idsOf_pickL]; exact h
theorem doAll_nodup (as : List Deed) : (idsOf (doAll as)).Nodup := by
  unfold doAll
  have key : ∀ (as : List Deed) (l : List One), (idsOf l).Nodup → (idsOf (as.foldl doL l)).Nodup := by
    intro as
    induction as with
    | nil => intro l h; exact h
    | cons a as ih => intro l h; exact ih _ (doL_nodup l a h)
  exact key as [] (by simp [idsOf, idsTo])

/-- What TurnOnce asks behind the deeds, of a table in which nobody is twice. -/
theorem once_facts (l : List One) (x : Int) (h : (idsOf l).Nodup) :
    hasId (dropL l x) x = false ∧ addL (dropL l x) x true = dropL l x ++ [⟨x, true, 0⟩] ∧ hasId (dropL l x ++ [⟨x, true, 0⟩]) x = true ∧ addL (dropL l x ++ [⟨x, true, 0⟩]) x false = dropL l x ++ [⟨x, true, 0⟩] ∧
      hasId (setL (dropL l x ++ [⟨x, true, 0⟩]) x false) x = true ∧ hasId (dropL (setL (dropL l x ++ [⟨x, true, 0⟩]) x false) x) x = false ∧ idsOf (dropL l x ++ [⟨x, true, 0⟩]) = (idsOf l).erase x ++ [x] := by
  have h1 : x ∉ (idsOf l).erase x := fun hm => (List.Nodup.mem_erase_iff h).1 hm |>.1 rfl
  have a1 : hasId (dropL l x) x = false := by rw [hasId_not, idsOf_dropL]; exact h1
  have a2 : addL (dropL l x) x true = dropL l x ++ [⟨x, true, 0⟩] := by
    unfold addL
    rw [if_neg]
    intro h2
    rw [(idx_lt_iff _ _).1 h2] at a1
    cases a1
  have a7 : idsOf (dropL l x ++ [⟨x, true, 0⟩]) = (idsOf l).erase x ++ [x] := by
    rw [idsOf_map, List.map_append, ← idsOf_map, idsOf_dropL]; rfl
  have a3 : hasId (dropL l x ++ [⟨x, true, 0⟩]) x = true := by rw [hasId_ids, a7]; simp
  have a4 : addL (dropL l x ++ [⟨x, true, 0⟩]) x false = dropL l x ++ [⟨x, true, 0⟩] := by
    unfold addL
    rw [if_pos ((idx_lt_iff _ _).2 a3)]
  have a5 : hasId (setL (dropL l x ++ [⟨x, true, 0⟩]) x false) x = true := by rw [hasId_ids, idsOf_setL, a7]; simp
  have a6 : hasId (dropL (setL (dropL l x ++ [⟨x, true, 0⟩]) x false) x) x = false := by
    rw [hasId_not, idsOf_dropL, idsOf_setL, a7]
    have hn : ((idsOf l).erase x ++ [x]).Nodup := by
      rw [List.nodup_append]
      exact ⟨List.Nodup.erase _ h, by simp, fun y hy z hz e => by rw [List.mem_singleton.1 hz] at e; rw [e] at hy; exact h1 hy⟩
    exact fun hm => (List.Nodup.mem_erase_iff hn).1 hm |>.1 rfl
  exact ⟨a1, a2, a3, a4, a5, a6, a7⟩

/-- The numbers seen in the first k places. -/
theorem take_new (l : List Int) (h : l.Nodup) (k : Nat) (hk : k < l.length) : l.getD k 0 ∉ l.take k := by
  rw [← List.take_append_drop k l, List.nodup_append] at h
  intro hm
  refine h.2.2 _ hm _ ?_ rfl
  rw [List.drop_eq_getElem_cons (by omega), getD_get _ _ _ hk]
  exact List.mem_cons_self ..

end Go.Proofs.Ytjbjkkicfdaljaa
