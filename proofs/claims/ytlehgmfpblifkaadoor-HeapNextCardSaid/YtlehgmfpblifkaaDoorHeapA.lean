/- Records in a row; a heap of them: made, told how many, told its last number. -/
import Derived.Test.YtlehgmfpblifkaaDoorRw
import Derived.Test.YtlehgmfpblifkaaDoorTreePure
import Derived.Deep.RegionHeld3
import Derived.Deep.DrawnRows
namespace Go.Proofs.YtlehgmfpblifkaaDoor
open Go.RowKit
set_option linter.unusedVariables false
attribute [local go_sem ↓] Go.wp_at_zero Go.wp_at_succ

/-- A slice, as three numbers. -/
structure Sl where
  a : Option Addr
  n : Nat
  c : Nat
def Sl.v (s : Sl) : Value := .slice s.a s.n s.c
/-- A value's five cells, unread. -/
structure Rv where
  k : Int
  i : Int
  t : ByteArray
  l : Sl
  f : Sl
def Rv.cs (v : Rv) : List Value := [.int .i64 v.k, .int .i64 v.i, .string v.t, v.l.v, v.f.v]
def Rv.agg (v : Rv) : Value := .agg #[.int .i64 v.k, .int .i64 v.i, .string v.t, v.l.v, v.f.v]
structure Dc where
  id : Int
  v : Rv
def Dc.cs (d : Dc) : List Value := [.int .i64 d.id, .int .i64 d.v.k, .int .i64 d.v.i, .string d.v.t, d.v.l.v, d.v.f.v]
def Dc.agg (d : Dc) : Value := .agg #[.int .i64 d.id, .int .i64 d.v.k, .int .i64 d.v.i, .string d.v.t, d.v.l.v, d.v.f.v]
def hcells (l : List Dc) : List Value := l.flatMap Dc.cs
def zR : Rv := ⟨0, 0, ⟨#[]⟩, ⟨none, 0, 0⟩, ⟨none, 0, 0⟩⟩
def zDc : Dc := ⟨0, zR⟩
def gc (l : List Dc) (i : Nat) : Dc := l.getD i zDc
theorem gc_get (l : List Dc) (i : Nat) (h : i < l.length) : gc l i = l[i] := by
  unfold gc; rw [List.getD_eq_getElem?_getD, List.getElem?_eq_getElem h]; rfl
theorem gc_mem (l : List Dc) (i : Nat) (h : i < l.length) : gc l i ∈ l := by rw [gc_get l i h]; exact List.getElem_mem h
theorem gc_take (l : List Dc) (k : Nat) (hk : k < l.length) : l.take (k + 1) = l.take k ++ [gc l k] := by
  rw [List.take_succ_eq_append_getElem hk, gc_get l k hk]
theorem hcells_append (a b : List Dc) : hcells (a ++ b) = hcells a ++ hcells b := by unfold hcells; exact List.flatMap_append ..
theorem hcells_cons (a : Dc) (b : List Dc) : hcells (a :: b) = a.cs ++ hcells b := rfl
theorem hcells_length (l : List Dc) : (hcells l).length = l.length * 6 := by
  induction l with
  | nil => rfl
  | cons x l ih => rw [hcells_cons, List.length_append, ih, List.length_cons]; simp [Dc.cs]; omega
theorem hcells_take (l : List Dc) (k : Nat) : (hcells l).take (k * 6) = hcells (l.take k) := by
  induction l generalizing k with
  | nil => simp [hcells]
  | cons x l ih =>
    rcases k with _ | k
    · simp [hcells]
    · rw [List.take_succ_cons, hcells_cons, hcells_cons, ← ih k, show (k + 1) * 6 = k * 6 + 6 by omega]; rfl
theorem hcells_drop (l : List Dc) (k : Nat) : (hcells l).drop (k * 6) = hcells (l.drop k) := by
  induction l generalizing k with
  | nil => simp [hcells]
  | cons x l ih =>
    rcases k with _ | k
    · simp [hcells]
    · rw [List.drop_succ_cons, hcells_cons, ← ih k, show (k + 1) * 6 = k * 6 + 6 by omega]; rfl
theorem hcells_get (l : List Dc) (i j : Nat) (u : Value) (h : i < l.length) (hu : (gc l i).cs[j]? = some u) : (hcells l)[i * 6 + j]? = some u := by
  have h1 : (hcells l).drop (i * 6) = (gc l i).cs ++ hcells (l.drop (i + 1)) := by rw [hcells_drop, List.drop_eq_getElem_cons h, gc_get l i h]; rfl
  rw [← List.getElem?_drop, h1, List.getElem?_append_left (List.getElem?_eq_some_iff.1 hu).1]
  exact hu
theorem dc_one (d : Dc) : ∀ u ∈ d.cs, u.oneCell' = true := by
  intro u hu
  simp [Dc.cs] at hu
  rcases hu with rfl | rfl | rfl | rfl | rfl | rfl <;> rfl
theorem hcells_one (l : List Dc) : ∀ u ∈ hcells l, u.oneCell' = true := by
  intro u hu
  obtain ⟨x, _, hx⟩ := List.mem_flatMap.1 hu
  exact dc_one x u hx
structure Cells6 (w : World) (g o : Nat) (d : Dc) : Prop where
  c0 : w.cell? ⟨g, o, none⟩ = some (.int .i64 d.id)
  c1 : w.cell? ⟨g, o + 1, none⟩ = some (.int .i64 d.v.k)
  c2 : w.cell? ⟨g, o + 2, none⟩ = some (.int .i64 d.v.i)
  c3 : w.cell? ⟨g, o + 3, none⟩ = some (.string d.v.t)
  c4 : w.cell? ⟨g, o + 4, none⟩ = some d.v.l.v
  c5 : w.cell? ⟨g, o + 5, none⟩ = some d.v.f.v
theorem Cells6.keep {w w' : World} {g o : Nat} {d : Dc} (h : Cells6 w g o d) (hg : g < w.heap.size) (b : Below w.heap.size w w') : Cells6 w' g o d := by
  have k : ∀ j u, w.cell? ⟨g, j, none⟩ = some u → w'.cell? ⟨g, j, none⟩ = some u := fun j u hu => (b.cell (p := ⟨g, j, none⟩) hg).trans hu
  exact ⟨k _ _ h.c0, k _ _ h.c1, k _ _ h.c2, k _ _ h.c3, k _ _ h.c4, k _ _ h.c5⟩
/-- The cells of a row of records. -/
theorem rw_docs {B : Nat} {w : World} {T : TypeId} {v : Value} {l : List Dc} (h : Rw B w T 6 v l.length (hcells l)) : ∃ A cap, v = .slice A l.length cap ∧ l.length ≤ cap ∧ cap ≤ 9223372036854775807 ∧
    (0 < l.length → ∃ g, A = some ⟨g, 0, none⟩ ∧ g < w.heap.size ∧ ∀ i, i < l.length → Cells6 w g (i * 6) (gc l i)) := by
  obtain ⟨A, cap, rfl, h1, h2, h3, h4⟩ := h.shape
  refine ⟨A, cap, rfl, h1, h2, fun h0 => ?_⟩
  rcases A with _ | a
  · have := (h3 rfl).1; omega
  · obtain ⟨g, rfl, _, hg, _, hc⟩ := h4 a rfl
    exact ⟨g, rfl, hg, fun i hi => ⟨hc _ _ (hcells_get l i 0 _ hi rfl), hc _ _ (hcells_get l i 1 _ hi rfl), hc _ _ (hcells_get l i 2 _ hi rfl), hc _ _ (hcells_get l i 3 _ hi rfl), hc _ _ (hcells_get l i 4 _ hi rfl), hc _ _ (hcells_get l i 5 _ hi rfl)⟩⟩

/-- A heap whose records are ds. -/
def HpF (p : Nat) (v : Value) (k : Nat) : Prop := k = p ∨ own v k
def Hp (B : Nat) (w : World) (p : Nat) (ds : List Dc) (last : Int) (F : Nat → Prop) : Prop :=
  ∃ v, w.heap[p]? = some (.cells #[v, .int .i64 last] 57 (0, 0)) ∧ B ≤ p ∧ Rw B w 42 6 v ds.length (hcells ds) ∧ F = HpF p v
theorem Hp.foot {B : Nat} {w : World} {p : Nat} {ds : List Dc} {last : Int} {F : Nat → Prop} (H : Hp B w p ds last F) (k : Nat) (hk : F k) : B ≤ k ∧ k < w.heap.size := by
  obtain ⟨v, h1, h2, h3, rfl⟩ := H
  rcases hk with rfl | hk
  · exact ⟨h2, lt_of_block h1⟩
  · exact h3.lt k hk
theorem Hp.stays {B : Nat} {w w' : World} {p : Nat} {ds : List Dc} {last : Int} {F : Nat → Prop} (H : Hp B w p ds last F) (hb : ∀ k, F k → w'.heap[k]? = w.heap[k]?) : Hp B w' p ds last F := by
  obtain ⟨v, h1, h2, h3, rfl⟩ := H
  exact ⟨v, (hb p (.inl rfl)).trans h1, h2, h3.stays fun k hk => hb k (.inr hk), rfl⟩
theorem Hp.below {B : Nat} {w w' : World} {p : Nat} {ds : List Dc} {last : Int} {F : Nat → Prop} (H : Hp B w p ds last F) (hb : Below w.heap.size w w') : Hp B w' p ds last F :=
  H.stays fun k hk => hb.block k (H.foot k hk).2
theorem Hp.other {B : Nat} {w w' : World} {p : Nat} {ds : List Dc} {last : Int} {F G G' : Nat → Prop} (H : Hp B w p ds last F) (hm : Mv G G' w w') (ha : ∀ k, F k → ¬ G k) : Hp B w' p ds last F :=
  H.stays fun k hk => hm.block k (H.foot k hk).2 (ha k hk)
theorem Hp.moved {B : Nat} {w w' : World} {p : Nat} {ds : List Dc} {last : Int} {F F' : Nat → Prop} (H : Hp B w p ds last F) (hm : Mv F F' w w') (hB : B ≤ w.heap.size) : Below B w w' := hm.below (fun k hk => (H.foot k hk).1) hB
theorem Hp.base {B C : Nat} {w : World} {p : Nat} {ds : List Dc} {last : Int} {F : Nat → Prop} (H : Hp C w p ds last F) (hB : B ≤ C) : Hp B w p ds last F := by
  obtain ⟨v, h1, h2, h3, hF⟩ := H
  exact ⟨v, h1, Nat.le_trans hB h2, h3.base hB, hF⟩

theorem hnew_any (w : World) : Calls Tryd.prog 9 #[] w fun r w' => ∃ p F, r = .returned (.pointer (some ⟨p, 0, none⟩)) ∧ Hp w.heap.size w' p [] 0 F ∧ Below w.heap.size w w' := by
  go_enter Tryd.func9, Tryd.ntmps9
  go_wp2_with fail
  go_ret
  exact ⟨w.heap.size, _, rfl, ⟨_, heap_alloc_new w _, Nat.le_refl _, Rw.nil _ _ _ _, rfl⟩, balloc _⟩

theorem hlen_any (B p : Nat) (ds : List Dc) (last : Int) (F : Nat → Prop) (w : World) (H : Hp B w p ds last F) :
    Calls Tryd.prog 17 #[.pointer (some ⟨p, 0, none⟩)] w fun r w' => r = .returned (.int .i64 (ds.length : Nat)) ∧ w = w' := by
  obtain ⟨v, h1, h2, h3, rfl⟩ := H
  obtain ⟨A, cap, rfl, hc, hm, _⟩ := rw_docs h3
  have c0 := (cell_of_row w p 0 _ _ _ h1).trans rfl
  go_enter Tryd.func17, Tryd.ntmps17
  go_wp2_with fail
  go_ret
  exact ⟨rfl, rfl⟩
theorem hlast_any (B p : Nat) (ds : List Dc) (last : Int) (F : Nat → Prop) (w : World) (H : Hp B w p ds last F) :
    Calls Tryd.prog 13 #[.pointer (some ⟨p, 0, none⟩)] w fun r w' => r = .returned (.int .i64 last) ∧ w = w' := by
  obtain ⟨v, h1, h2, h3, rfl⟩ := H
  have c0 := (cell_of_row w p 1 _ _ _ h1).trans rfl
  go_enter Tryd.func13, Tryd.ntmps13
  go_wp2_with fail
  go_ret
  exact ⟨rfl, rfl⟩

end Go.Proofs.YtlehgmfpblifkaaDoor
