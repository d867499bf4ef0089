/- How many entries there are behind a deed; lists in order. (For seats that do not build TreeTurned, TreeNodes.) -/
import Derived.Test.YtaoamkkgiiiejaaTreeDi
namespace Go.Proofs.Ytaoamkkgiiiejaa
open Go.RowKit
set_option linter.unusedVariables false

theorem srt_eq : ∀ (a b : List E), Srt a → Srt b → (∀ x, x ∈ a ↔ x ∈ b) → a = b
  | [], [], _, _, _ => rfl
  | [], y :: b, _, _, h => absurd ((h y).2 (List.mem_cons_self ..)) (by simp)
  | x :: a, [], _, _, h => absurd ((h x).1 (List.mem_cons_self ..)) (by simp)
  | x :: a, y :: b, ha, hb, h => by
    have hx : ∀ z ∈ a, lt x z := fun z hz => List.rel_of_pairwise_cons ha hz
    have hy : ∀ z ∈ b, lt y z := fun z hz => List.rel_of_pairwise_cons hb hz
    have hxy : x = y := by
      rcases List.mem_cons.1 ((h x).1 (List.mem_cons_self ..)) with h1 | h1
      · exact h1
      · rcases List.mem_cons.1 ((h y).2 (List.mem_cons_self ..)) with h2 | h2
        · exact h2.symm
        · exact absurd (hx y h2) (lt_asymm (hy x h1))
    subst hxy
    have hab := srt_eq a b (List.Pairwise.of_cons ha) (List.Pairwise.of_cons hb) fun z => by
      constructor
      · intro hz
        rcases List.mem_cons.1 ((h z).1 (List.mem_cons_of_mem _ hz)) with h1 | h1
        · exact absurd (h1 ▸ hx z hz) (lt_irrefl x)
        · exact h1
      · intro hz
        rcases List.mem_cons.1 ((h z).2 (List.mem_cons_of_mem _ hz)) with h1 | h1
        · exact absurd (h1 ▸ hy z hz) (lt_irrefl x)
        · exact h1
    rw [hab]
theorem add_le {e : E} {L : List E} (hs : Srt L) : (add e L).length ≤ L.length + 1 := by
  rw [add_length hs]; split <;> omega
theorem del_le {e : E} {L : List E} (hs : Srt L) : (del e L).length ≤ L.length := by
  by_cases he : e ∈ L
  · have := (del_length hs).1 he; omega
  · rw [(del_length hs).2 he]; exact Nat.le_refl _
theorem with_true (e : E) (l : List E) : (decide (e ∈ l) != true) = decide (e ∉ l) := by by_cases h : e ∈ l <;> simp [h]
theorem with_false (e : E) (l : List E) : (decide (e ∈ l) != false) = decide (e ∈ l) := by simp
theorem tree_cell {B p b : Nat} {L : List E} {F : Nat → Prop} {w : World} (H : Tree B w p L F) (hb : ¬ F b) (o : Nat) (u : Value) : Tree B (w.setCell ⟨b, o, none⟩ u) p L F :=
  H.other (Mv.setCell (F := (· = b)) (w := w) (a := ⟨b, o, none⟩) u rfl) fun k hk e => hb (e ▸ hk)

/-! ### Deeds -/
structure D where
  add : Bool
  e : E
def dcells (l : List D) : List Value := l.flatMap fun d => [.bool d.add, .string d.e.key, .int .i64 d.e.id]
def zD : D := ⟨false, ⟨⟨#[]⟩, 0⟩⟩
def gd (l : List D) (i : Nat) : D := l.getD i zD
theorem gd_get (l : List D) (i : Nat) (h : i < l.length) : gd l i = l[i] := by
  unfold gd; rw [List.getD_eq_getElem?_getD, List.getElem?_eq_getElem h]; rfl
theorem dcells_length (l : List D) : (dcells l).length = l.length * 3 := by
  induction l with
  | nil => rfl
  | cons x l ih => unfold dcells at ih ⊢; rw [List.flatMap_cons, List.length_append, ih, List.length_cons]; simp; omega
theorem dcells_append (a b : List D) : dcells (a ++ b) = dcells a ++ dcells b := by unfold dcells; exact List.flatMap_append ..
theorem dcells_cons (a : D) (b : List D) : dcells (a :: b) = [.bool a.add, .string a.e.key, .int .i64 a.e.id] ++ dcells b := rfl
theorem dcells_drop (l : List D) (k : Nat) : (dcells l).drop (k * 3) = dcells (l.drop k) := by
  induction l generalizing k with
  | nil => simp [dcells]
  | cons x l ih =>
    rcases k with _ | k
    · simp
    · rw [List.drop_succ_cons, dcells_cons, ← ih k, show (k + 1) * 3 = k * 3 + 3 by omega]; rfl
theorem dcells_get (l : List D) (i : Nat) (h : i < l.length) : (dcells l)[i * 3]? = some (.bool (gd l i).add) ∧ (dcells l)[i * 3 + 1]? = some (.string (gd l i).e.key) ∧ (dcells l)[i * 3 + 2]? = some (.int .i64 (gd l i).e.id) := by
  have h1 : (dcells l).drop (i * 3) = dcells (gd l i :: l.drop (i + 1)) := by rw [dcells_drop, List.drop_eq_getElem_cons h, gd_get l i h]
  have h2 : ∀ j, (dcells l)[i * 3 + j]? = ((dcells l).drop (i * 3))[j]? := fun j => by rw [List.getElem?_drop]
  exact ⟨by rw [show i * 3 = i * 3 + 0 from rfl, h2, h1]; rfl, by rw [h2, h1]; rfl, by rw [h2, h1]; rfl⟩
theorem dcells_one (l : List D) : ∀ u ∈ dcells l, u.oneCell' = true := by
  intro u hu
  unfold dcells at hu
  obtain ⟨x, _, hx⟩ := List.mem_flatMap.1 hu
  simp at hx
  rcases hx with rfl | rfl | rfl <;> rfl

def did (L : List E) (d : D) : List E := if d.add then add d.e L else del d.e L
def dids (L : List E) (ds : List D) : List E := ds.foldl did L
theorem srt_did {L : List E} (hs : Srt L) (d : D) : Srt (did L d) := by unfold did; split; exact srt_add _ hs; exact srt_del _ hs
theorem srt_dids : ∀ (ds : List D) {L : List E}, Srt L → Srt (dids L ds)
  | [], _, h => h
  | d :: ds, _, h => srt_dids ds (srt_did h d)
theorem dids_append (L : List E) (a b : List D) : dids L (a ++ b) = dids (dids L a) b := List.foldl_append ..
theorem dids_take (L : List E) (ds : List D) (k : Nat) (hk : k < ds.length) : dids L (ds.take (k + 1)) = did (dids L (ds.take k)) (gd ds k) := by
  rw [List.take_succ_eq_append_getElem hk, dids_append, gd_get ds k hk]; rfl
theorem did_le {L : List E} (hs : Srt L) (d : D) : (did L d).length ≤ L.length + 1 := by
  unfold did
  split
  · exact add_le hs
  · have := del_le (e := d.e) hs; omega
theorem dids_le : ∀ (ds : List D) {L : List E}, Srt L → (dids L ds).length ≤ L.length + ds.length
  | [], _, _ => Nat.le_refl _
  | d :: ds, L, h => by
    have h1 := dids_le ds (srt_did h d)
    have h2 := did_le h d
    show (dids (did L d) ds).length ≤ L.length + (ds.length + 1)
    omega

end Go.Proofs.Ytaoamkkgiiiejaa
