/- Values: what a value in memory reads as, to a depth; rows of values and of fields. -/
import Derived.Test.YtmeebjjdceokeaaDoorRvA
namespace Go.Proofs.YtmeebjjdceokeaaDoor
open Go.RowKit
set_option linter.unusedVariables false

/-- A value, as the document speaks of it. -/
inductive V where
  | mk (k i : Int) (t : ByteArray) (l : List V) (f : List (ByteArray × V))
def V.k : V → Int | .mk k _ _ _ _ => k
def V.i : V → Int | .mk _ i _ _ _ => i
def V.t : V → ByteArray | .mk _ _ t _ _ => t
def V.l : V → List V | .mk _ _ _ l _ => l
def V.f : V → List (ByteArray × V) | .mk _ _ _ _ f => f
abbrev Fv := ByteArray × Rv
def vcells (l : List Rv) : List Value := l.flatMap Rv.cs
def Fv.cs (p : Fv) : List Value := [.string p.1, .int .i64 p.2.k, .int .i64 p.2.i, .string p.2.t, p.2.l.v, p.2.f.v]
def fcells (l : List Fv) : List Value := l.flatMap Fv.cs
theorem vcells_append (a b : List Rv) : vcells (a ++ b) = vcells a ++ vcells b := by unfold vcells; exact List.flatMap_append ..
theorem fcells_append (a b : List Fv) : fcells (a ++ b) = fcells a ++ fcells b := by unfold fcells; exact List.flatMap_append ..
theorem vcells_cons (a : Rv) (b : List Rv) : vcells (a :: b) = a.cs ++ vcells b := rfl
theorem fcells_cons (a : Fv) (b : List Fv) : fcells (a :: b) = Fv.cs a ++ fcells b := rfl
theorem rv_one (r : Rv) : ∀ u ∈ r.cs, u.oneCell' = true := by
  intro u hu
  simp [Rv.cs] at hu
  rcases hu with rfl | rfl | rfl | rfl | rfl <;> rfl
theorem fv_one (r : Fv) : ∀ u ∈ Fv.cs r, u.oneCell' = true := by
  intro u hu
  simp [Fv.cs] at hu
  rcases hu with rfl | rfl | rfl | rfl | rfl | rfl <;> rfl
theorem vcells_one (l : List Rv) : ∀ u ∈ vcells l, u.oneCell' = true := by
  intro u hu
  obtain ⟨x, _, hx⟩ := List.mem_flatMap.1 hu
  exact rv_one x u hx
theorem fcells_one (l : List Fv) : ∀ u ∈ fcells l, u.oneCell' = true := by
  intro u hu
  obtain ⟨x, _, hx⟩ := List.mem_flatMap.1 hu
  exact fv_one x u hx
theorem vcells_drop (l : List Rv) (k : Nat) : (vcells l).drop (k * 5) = vcells (l.drop k) := by
  induction l generalizing k with
  | nil => simp [vcells]
  | cons x l ih =>
    rcases k with _ | k
    · simp
    · rw [List.drop_succ_cons, vcells_cons, ← ih k, show (k + 1) * 5 = k * 5 + 5 by omega]; rfl
theorem fcells_drop (l : List Fv) (k : Nat) : (fcells l).drop (k * 6) = fcells (l.drop k) := by
  induction l generalizing k with
  | nil => simp [fcells]
  | cons x l ih =>
    rcases k with _ | k
    · simp
    · rw [List.drop_succ_cons, fcells_cons, ← ih k, show (k + 1) * 6 = k * 6 + 6 by omega]; rfl
theorem fcells_take (l : List Fv) (k : Nat) : (fcells l).take (k * 6) = fcells (l.take k) := by
  induction l generalizing k with
  | nil => simp [fcells]
  | cons x l ih =>
    rcases k with _ | k
    · simp [fcells]
    · rw [List.take_succ_cons, fcells_cons, fcells_cons, ← ih k, show (k + 1) * 6 = k * 6 + 6 by omega]; rfl
theorem vcells_length (l : List Rv) : (vcells l).length = l.length * 5 := by
  induction l with
  | nil => rfl
  | cons x l ih => rw [vcells_cons, List.length_append, ih, List.length_cons]; simp [Rv.cs]; omega
theorem fcells_length (l : List Fv) : (fcells l).length = l.length * 6 := by
  induction l with
  | nil => rfl
  | cons x l ih => rw [fcells_cons, List.length_append, ih, List.length_cons]; simp [Fv.cs]; omega
theorem vcells_get (l : List Rv) (i j : Nat) (u : Value) (h : i < l.length) (hu : (l[i]).cs[j]? = some u) : (vcells l)[i * 5 + j]? = some u := by
  have h1 : (vcells l).drop (i * 5) = (l[i]).cs ++ vcells (l.drop (i + 1)) := by rw [vcells_drop, List.drop_eq_getElem_cons h]; rfl
  rw [← List.getElem?_drop, h1, List.getElem?_append_left (List.getElem?_eq_some_iff.1 hu).1]
  exact hu
theorem fcells_get (l : List Fv) (i j : Nat) (u : Value) (h : i < l.length) (hu : (Fv.cs l[i])[j]? = some u) : (fcells l)[i * 6 + j]? = some u := by
  have h1 : (fcells l).drop (i * 6) = Fv.cs l[i] ++ fcells (l.drop (i + 1)) := by rw [fcells_drop, List.drop_eq_getElem_cons h]; rfl
  rw [← List.getElem?_drop, h1, List.getElem?_append_left (List.getElem?_eq_some_iff.1 hu).1]
  exact hu

inductive All2 {α β : Type} (R : α → β → Prop) : List α → List β → Prop where
  | nil : All2 R [] []
  | cons {a : α} {b : β} {xs : List α} {ys : List β} : R a b → All2 R xs ys → All2 R (a :: xs) (b :: ys)
theorem All2.length {α β : Type} {R : α → β → Prop} {xs : List α} {ys : List β} (h : All2 R xs ys) : xs.length = ys.length := by
  induction h with
  | nil => rfl
  | cons _ _ ih => simp [ih]
theorem All2.imp {α β : Type} {R S : α → β → Prop} (hi : ∀ a b, R a b → S a b) {xs : List α} {ys : List β} (h : All2 R xs ys) : All2 S xs ys := by
  induction h with
  | nil => exact .nil
  | cons h1 _ ih => exact .cons (hi _ _ h1) ih
theorem All2.snoc {α β : Type} {R : α → β → Prop} {xs : List α} {ys : List β} (h : All2 R xs ys) {a : α} {b : β} (h1 : R a b) : All2 R (xs ++ [a]) (ys ++ [b]) := by
  induction h with
  | nil => exact .cons h1 .nil
  | cons h2 _ ih => exact .cons h2 ih
theorem All2.get {α β : Type} {R : α → β → Prop} {xs : List α} {ys : List β} (h : All2 R xs ys) : ∀ (i : Nat) (h1 : i < xs.length) (h2 : i < ys.length), R xs[i] ys[i] := by
  induction h with
  | nil => intro i h1; simp at h1
  | cons h3 _ ih =>
    intro i h1 h2
    rcases i with _ | i
    · exact h3
    · exact ih i (by simpa using h1) (by simpa using h2)

/-- What five cells read as, to a depth; all rows lie in blocks of P. -/
def Rd (P : Nat → Prop) : Nat → World → V → Rv → Prop
  | 0, _, _, _ => False
  | d + 1, w, v, r => r.k = v.k ∧ r.i = v.i ∧ r.t = v.t ∧
      (∃ rs, All2 (Rd P d w) v.l rs ∧ Rw 0 w 28 5 r.l.v v.l.length (vcells rs) ∧ ∀ b, own r.l.v b → P b) ∧
      (∃ rs, All2 (fun x y => x.1 = y.1 ∧ Rd P d w x.2 y.2) v.f rs ∧ Rw 0 w 31 6 r.f.v v.f.length (fcells rs) ∧ ∀ b, own r.f.v b → P b)
theorem Rd.pos {P : Nat → Prop} {d : Nat} {w : World} {v : V} {r : Rv} (h : Rd P d w v r) : 0 < d := by
  rcases d with _ | d
  · exact h.elim
  · omega
/-- A reading stays where its blocks do; and in more blocks. -/
theorem Rd.stays {P Q : Nat → Prop} (hPQ : ∀ b, P b → Q b) {w w' : World} (hb : ∀ b, P b → w'.heap[b]? = w.heap[b]?) : ∀ (d : Nat) (v : V) (r : Rv), Rd P d w v r → Rd Q d w' v r
  | 0, _, _, h => h.elim
  | d + 1, v, r, ⟨h1, h2, h3, ⟨rs, a1, a2, a3⟩, ⟨qs, b1, b2, b3⟩⟩ =>
    ⟨h1, h2, h3, ⟨rs, a1.imp fun x y h => Rd.stays hPQ hb d x y h, a2.stays fun k hk => hb k (a3 k hk), fun b hb' => hPQ b (a3 b hb')⟩,
      ⟨qs, b1.imp fun x y h => ⟨h.1, Rd.stays hPQ hb d x.2 y.2 h.2⟩, b2.stays fun k hk => hb k (b3 k hk), fun b hb' => hPQ b (b3 b hb')⟩⟩
theorem Rd.wider {P Q : Nat → Prop} (hPQ : ∀ b, P b → Q b) {w : World} {d : Nat} {v : V} {r : Rv} (h : Rd P d w v r) : Rd Q d w v r := Rd.stays hPQ (fun _ _ => rfl) d v r h
theorem Rd.below {P : Nat → Prop} {w w' : World} {d : Nat} {v : V} {r : Rv} (h : Rd P d w v r) (hP : ∀ b, P b → b < w.heap.size) (hb : Below w.heap.size w w') : Rd P d w' v r :=
  Rd.stays (fun _ h => h) (fun b h9 => hb.block b (hP b h9)) d v r h
theorem Rd.mv {P F F' : Nat → Prop} {w w' : World} {d : Nat} {v : V} {r : Rv} (h : Rd P d w v r) (hP : ∀ b, P b → b < w.heap.size ∧ ¬ F b) (hm : Mv F F' w w') : Rd P d w' v r :=
  Rd.stays (fun _ h => h) (fun b h9 => hm.block b (hP b h9).1 (hP b h9).2) d v r h
/-- One may read deeper. -/
theorem Rd.deeper {P : Nat → Prop} {w : World} : ∀ (d : Nat) (v : V) (r : Rv), Rd P d w v r → Rd P (d + 1) w v r
  | 0, _, _, h => h.elim
  | d + 1, v, r, ⟨h1, h2, h3, ⟨rs, a1, a2, a3⟩, ⟨qs, b1, b2, b3⟩⟩ =>
    ⟨h1, h2, h3, ⟨rs, a1.imp fun x y h => Rd.deeper d x y h, a2, a3⟩, ⟨qs, b1.imp fun x y h => ⟨h.1, Rd.deeper d x.2 y.2 h.2⟩, b2, b3⟩⟩
/-- A value without parts. -/
theorem Rd.plain {P : Nat → Prop} {w : World} (d : Nat) (k i : Int) (t : ByteArray) : Rd P (d + 1) w (.mk k i t [] []) ⟨k, i, t, ⟨none, 0, 0⟩, ⟨none, 0, 0⟩⟩ :=
  ⟨rfl, rfl, rfl, ⟨[], .nil, Rw.nil _ _ _ _, fun b h => by simp [own, Sl.v, Value.ownBlock] at h⟩, ⟨[], .nil, Rw.nil _ _ _ _, fun b h => by simp [own, Sl.v, Value.ownBlock] at h⟩⟩

/-- Values that the law makes: kinds and what they have; names rise. -/
def namesUp (l : List (ByteArray × V)) : Prop := l.Pairwise fun a b => cb a.1.data.toList b.1.data.toList < 0
def VGood : Nat → V → Prop
  | 0, _ => False
  | d + 1, v => 0 ≤ v.k ∧ v.k ≤ 5 ∧ (v.k ≠ 4 → v.l = []) ∧ (v.k ≠ 5 → v.f = []) ∧ (∀ x ∈ v.l, VGood d x) ∧ (∀ x ∈ v.f, VGood d x.2) ∧ namesUp v.f ∧ v.l.length ≤ 3 ∧ v.f.length ≤ 4
theorem VGood.plain (d : Nat) (k i : Int) (t : ByteArray) (h0 : 0 ≤ k) (h5 : k ≤ 5) : VGood (d + 1) (.mk k i t [] []) :=
  ⟨h0, h5, fun _ => rfl, fun _ => rfl, fun x hx => absurd hx (by simp [V.l]), fun x hx => absurd hx (by simp [V.f]), List.Pairwise.nil, by simp [V.l], by simp [V.f]⟩
theorem VGood.deeper : ∀ (d : Nat) (v : V), VGood d v → VGood (d + 1) v
  | 0, _, h => h.elim
  | d + 1, v, ⟨h1, h2, h3, h4, h5, h6, h7, h8, h9⟩ => ⟨h1, h2, h3, h4, fun x hx => VGood.deeper d x (h5 x hx), fun x hx => VGood.deeper d x.2 (h6 x hx), h7, h8, h9⟩

/-- The two tables, as the start lays them. -/
def wordN : Nat → ByteArray
  | 0 => ⟨#[]⟩ | 1 => ⟨#[97]⟩ | 2 => ⟨#[98]⟩ | 3 => ⟨#[97, 98]⟩ | 4 => ⟨#[0]⟩ | 5 => ⟨#[195, 169]⟩ | 6 => ⟨#[122, 0]⟩
  | _ => ⟨#[108, 111, 110, 103, 44, 32, 97, 110, 100, 32, 108, 111, 110, 103, 101, 114]⟩
def nameN : Nat → ByteArray
  | 0 => ⟨#[97]⟩ | 1 => ⟨#[98]⟩ | 2 => ⟨#[99]⟩ | _ => ⟨#[110]⟩
def Tabs (w : World) : Prop := (∀ j, j < 8 → w.cell? ⟨0, j, none⟩ = some (.string (wordN j))) ∧ (∀ j, j < 4 → w.cell? ⟨1, j, none⟩ = some (.string (nameN j)))
theorem Tabs.below {w w' : World} (h : Tabs w) (hb : Below w.heap.size w w') : Tabs w' :=
  ⟨fun j hj => (hb.cell (World.block_lt_of_cell? w _ (h.1 j hj))).trans (h.1 j hj), fun j hj => (hb.cell (World.block_lt_of_cell? w _ (h.2 j hj))).trans (h.2 j hj)⟩
/-- Bytes without the first one. -/
theorem InInts.tail {w : World} {A : Option Addr} {n cap : Nat} {xs : List Int} (h : InInts .u8 w A (n + 1) cap xs) : ∃ b off, A = some ⟨b, off, none⟩ ∧ b < w.heap.size ∧ w.cell? ⟨b, off, none⟩ = some (.int .u8 (xs.getD 0 0)) ∧
    ∀ A', (n = 0 ∨ A' = some ⟨b, off + 1, none⟩) → InInts .u8 w A' n (cap - 1) (xs.drop 1) := by
  obtain ⟨h1, h2, h3, h4⟩ := h
  obtain ⟨b, off, rfl, hb, hc⟩ := h4 (by omega)
  refine ⟨b, off, rfl, hb, hc 0 (by omega), fun A' hA => ⟨by rw [List.length_drop]; omega, by omega, by omega, fun h0 => ?_⟩⟩
  rcases hA with hA | rfl
  · omega
  · refine ⟨b, off + 1, rfl, hb, fun i hi => ?_⟩
    have h9 := hc (i + 1) (by omega)
    rw [show off + 1 + i = off + (i + 1) by omega, h9]
    rw [List.getD_eq_getElem?_getD, List.getD_eq_getElem?_getD, List.getElem?_drop, Nat.add_comm 1 i]

end Go.Proofs.YtmeebjjdceokeaaDoor
