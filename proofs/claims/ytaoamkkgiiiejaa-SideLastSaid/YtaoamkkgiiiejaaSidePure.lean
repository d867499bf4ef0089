/- What deeds come to, entry by entry. -/
import Derived.Test.YtaoamkkgiiiejaaSideAll
namespace Go.Proofs.Ytaoamkkgiiiejaa
open Go.RowKit
set_option linter.unusedVariables false

/-- Is x there behind the deeds ds, if it was there (b) ahead of them? -/
def vals (x : E) (b : Bool) (ds : List D) : Bool := ds.foldl (fun b d => if d.e = x then d.add else b) b
theorem mem_did {L : List E} (hs : Srt L) (d : D) (x : E) : decide (x ∈ did L d) = if d.e = x then d.add else decide (x ∈ L) := by
  unfold did
  by_cases h : d.e = x
  · rw [if_pos h]
    cases hd : d.add with
    | true => rw [if_pos rfl]; exact decide_eq_true ((mem_add _ _ _ hs).2 (.inl h.symm))
    | false => rw [if_neg (by simp)]; exact decide_eq_false fun h9 => ((mem_del _ _ _).1 h9).1 h.symm
  · rw [if_neg h]
    have hne : ¬ x = d.e := fun e => h e.symm
    cases hd : d.add with
    | true =>
      rw [if_pos rfl, decide_eq_decide, mem_add _ _ _ hs]
      exact ⟨fun h9 => h9.resolve_left hne, .inr⟩
    | false =>
      rw [if_neg (by simp), decide_eq_decide, mem_del]
      exact ⟨fun h9 => h9.2, fun h9 => ⟨hne, h9⟩⟩
theorem mem_dids (x : E) : ∀ (ds : List D) {L : List E}, Srt L → decide (x ∈ dids L ds) = vals x (decide (x ∈ L)) ds
  | [], _, _ => rfl
  | d :: ds, L, hs => by
    have h1 := mem_dids x ds (srt_did hs d)
    show decide (x ∈ dids (did L d) ds) = vals x (if d.e = x then d.add else decide (x ∈ L)) ds
    rw [h1, mem_did hs]
theorem vals_const (x : E) : ∀ (ds : List D), (∀ b, vals x b ds = b) ∨ ∃ c, ∀ b, vals x b ds = c
  | [] => .inl fun _ => rfl
  | d :: ds => by
    rcases vals_const x ds with h | ⟨c, h⟩
    · by_cases hd : d.e = x
      · exact .inr ⟨d.add, fun b => by show vals x (if d.e = x then d.add else b) ds = _; rw [if_pos hd, h]⟩
      · exact .inl fun b => by show vals x (if d.e = x then d.add else b) ds = _; rw [if_neg hd, h]
    · exact .inr ⟨c, fun b => h _⟩
theorem dids_twice {L : List E} (hs : Srt L) (ds : List D) : dids (dids L ds) ds = dids L ds := by
  refine srt_eq _ _ (srt_dids ds (srt_dids ds hs)) (srt_dids ds hs) fun x => ?_
  have h1 := mem_dids x ds (srt_dids ds hs)
  have h2 := mem_dids x ds hs
  rw [h2] at h1
  have h3 : vals x (vals x (decide (x ∈ L)) ds) ds = vals x (decide (x ∈ L)) ds := by
    rcases vals_const x ds with h | ⟨c, h⟩
    · rw [h]
    · rw [h, h]
  rw [h3, ← h2] at h1
  exact decide_eq_decide.1 h1

/-! ### Deeds in a row -/
def acells (l : List A8) : List Value := l.flatMap fun x => [.int .u8 x.kind, .int .u8 x.key, .int .u8 x.id]
theorem acells_length (l : List A8) : (acells l).length = l.length * 3 := by
  induction l with
  | nil => rfl
  | cons x l ih => unfold acells at ih ⊢; rw [List.flatMap_cons, List.length_append, ih, List.length_cons]; simp; omega
theorem acells_append (a b : List A8) : acells (a ++ b) = acells a ++ acells b := by unfold acells; exact List.flatMap_append ..
theorem acells_cons (a : A8) (b : List A8) : acells (a :: b) = [.int .u8 a.kind, .int .u8 a.key, .int .u8 a.id] ++ acells b := rfl
theorem acells_drop (l : List A8) (k : Nat) : (acells l).drop (k * 3) = acells (l.drop k) := by
  induction l generalizing k with
  | nil => simp [acells]
  | cons x l ih =>
    rcases k with _ | k
    · simp
    · rw [List.drop_succ_cons, acells_cons, ← ih k, show (k + 1) * 3 = k * 3 + 3 by omega]; rfl
theorem a8_get (l : List A8) (i : Nat) (h : i < l.length) : a8 l i = l[i] := by
  unfold a8; rw [List.getD_eq_getElem?_getD, List.getElem?_eq_getElem h]; rfl
theorem acells_get (l : List A8) (i : Nat) (h : i < l.length) : (acells l)[i * 3]? = some (.int .u8 (a8 l i).kind) ∧ (acells l)[i * 3 + 1]? = some (.int .u8 (a8 l i).key) ∧ (acells l)[i * 3 + 2]? = some (.int .u8 (a8 l i).id) := by
  have h1 : (acells l).drop (i * 3) = acells (a8 l i :: l.drop (i + 1)) := by rw [acells_drop, List.drop_eq_getElem_cons h, a8_get l i h]
  have h2 : ∀ j, (acells l)[i * 3 + j]? = ((acells l).drop (i * 3))[j]? := fun j => by rw [List.getElem?_drop]
  exact ⟨by rw [show i * 3 = i * 3 + 0 from rfl, h2, h1]; rfl, by rw [h2, h1]; rfl, by rw [h2, h1]; rfl⟩
theorem acells_one (l : List A8) : ∀ u ∈ acells l, u.oneCell' = true := by
  intro u hu
  unfold acells at hu
  obtain ⟨x, _, hx⟩ := List.mem_flatMap.1 hu
  simp at hx
  rcases hx with rfl | rfl | rfl <;> rfl
theorem a8_take (l : List A8) (m i : Nat) (h : i < m) : a8 (l.take m) i = a8 l i := by
  unfold a8; rw [List.getD_eq_getElem?_getD, List.getD_eq_getElem?_getD, List.getElem?_take, if_pos h]

/-- The first m of deeds that came in. -/
theorem InA8.front {w : World} {A : Option Addr} {n cap : Nat} {xs : List A8} (h : InA8 w A n cap xs) (m : Nat) (hm : m ≤ n) : InA8 w A m cap (xs.take m) := by
  obtain ⟨h1, h2, h3, h4, h5⟩ := h
  refine ⟨by rw [List.length_take]; omega, by omega, h3, fun i hi => by rw [a8_take _ _ _ hi]; exact h4 i (by omega), fun h0 => ?_⟩
  obtain ⟨b, off, rfl, hb, hc⟩ := h5 (by omega)
  exact ⟨b, off, rfl, hb, fun i hi => by rw [a8_take _ _ _ hi]; exact hc i (by omega)⟩
/-- The cells of deeds that came in. -/
theorem InA8.cells {w : World} {b off n cap : Nat} {xs : List A8} (h : InA8 w (some ⟨b, off, none⟩) n cap xs) : ∀ j u, (acells xs)[j]? = some u → w.cell? ((⟨b, off, none⟩ : Addr).add j) = some u := by
  obtain ⟨h1, h2, h3, h4, h5⟩ := h
  intro j u hu
  have hj : j < xs.length * 3 := by have := (List.getElem?_eq_some_iff.1 hu).1; rw [acells_length] at this; exact this
  obtain ⟨b', off', e, hb, hc⟩ := h5 (by omega)
  injection e with e
  injection e with e1 e2
  subst e1 e2
  obtain ⟨i, r, hr, rfl⟩ : ∃ i r, r < 3 ∧ j = i * 3 + r := ⟨j / 3, j % 3, by omega, by omega⟩
  have hi : i < xs.length := by omega
  obtain ⟨c0, c1, c2⟩ := hc i (by omega)
  obtain ⟨d0, d1, d2⟩ := acells_get xs i hi
  rw [Addr.add_lit]
  rcases r with _ | _ | _ | r
  · rw [Nat.add_zero] at hu ⊢; rw [d0] at hu; injection hu with hu; rw [← hu]; exact c0
  · rw [d1] at hu; injection hu with hu; rw [← hu, ← Nat.add_assoc]; exact c1
  · rw [d2] at hu; injection hu with hu; rw [← hu, ← Nat.add_assoc]; exact c2
  · omega
theorem rw_acts {B : Nat} {w : World} {v : Value} {T : TypeId} {l : List A8} (h : Rw B w T 3 v l.length (acells l)) (hok : ∀ i, i < l.length → (a8 l i).ok) : ∃ A cap, v = .slice A l.length cap ∧ InA8 w A l.length cap l := by
  obtain ⟨A, cap, rfl, h1, h2, h3, h4⟩ := h.shape
  refine ⟨A, cap, rfl, rfl, h1, h2, hok, fun h0 => ?_⟩
  rcases A with _ | A
  · have := (h3 rfl).1; omega
  · obtain ⟨g, rfl, _, hg, _, hc⟩ := h4 _ rfl
    refine ⟨g, 0, rfl, hg, fun i hi => ?_⟩
    obtain ⟨d0, d1, d2⟩ := acells_get l i hi
    rw [Nat.zero_add]
    exact ⟨hc _ _ d0, hc _ _ d1, hc _ _ d2⟩
theorem a8_append (a b : List A8) (i : Nat) : a8 (a ++ b) i = if i < a.length then a8 a i else a8 b (i - a.length) := by
  unfold a8
  by_cases h : i < a.length
  · rw [if_pos h, List.getD_eq_getElem?_getD, List.getD_eq_getElem?_getD, List.getElem?_append_left h]
  · rw [if_neg h, List.getD_eq_getElem?_getD, List.getD_eq_getElem?_getD, List.getElem?_append_right (by omega)]

end Go.Proofs.Ytaoamkkgiiiejaa
