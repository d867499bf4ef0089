/- Values stand in one order: the plain law. -/
import Derived.Test.YtmeebjjdceokeaaDoorCmpB
namespace Go.Proofs.YtmeebjjdceokeaaDoor
open Go.RowKit
set_option linter.unusedVariables false

structure Tot {α : Type} (c : α → α → Int) : Prop where
  anti : ∀ x y, c y x = - c x y
  trans : ∀ x y z, c x y ≤ 0 → c y z ≤ 0 → c x z ≤ 0
theorem Tot.lt_l {α : Type} {c : α → α → Int} (h : Tot c) {x y z : α} (h1 : c x y < 0) (h2 : c y z ≤ 0) : c x z < 0 := by
  have h3 := h.trans x y z (by omega) h2
  have h4 := h.anti x z
  have h5 := h.anti x y
  rcases Int.lt_or_eq_of_le h3 with h6 | h6
  · exact h6
  · have := h.trans y z x h2 (by omega); omega
theorem Tot.lt_r {α : Type} {c : α → α → Int} (h : Tot c) {x y z : α} (h1 : c x y ≤ 0) (h2 : c y z < 0) : c x z < 0 := by
  have h3 := h.trans x y z h1 (by omega)
  have h4 := h.anti x z
  have h5 := h.anti y z
  rcases Int.lt_or_eq_of_le h3 with h6 | h6
  · exact h6
  · have := h.trans z x y (by omega) h1; omega
theorem Tot.eq {α : Type} {c : α → α → Int} (h : Tot c) {x y z : α} (h1 : c x y = 0) (h2 : c y z = 0) : c x z = 0 := by
  have h3 := h.trans x y z (by omega) (by omega)
  have h4 := h.trans z y x (by have := h.anti y z; omega) (by have := h.anti x y; omega)
  have := h.anti x z
  omega
theorem sgn_tot : Tot sgn := by
  constructor
  · intro x y; unfold sgn; (repeat' split) <;> omega
  · intro x y z; unfold sgn; (repeat' split) <;> omega
theorem cb_tot : Tot fun x y : ByteArray => cb x.data.toList y.data.toList := by
  refine ⟨fun x y => cb_swap _ _, fun x y z h1 h2 => ?_⟩
  rcases Int.lt_or_eq_of_le h1 with h3 | h3
  · rcases Int.lt_or_eq_of_le h2 with h4 | h4
    · exact Int.le_of_lt (cb_trans _ _ _ h3 h4)
    · rw [← cb_zero _ _ h4]; exact h1
  · rw [cb_zero _ _ h3]; exact h2
theorem cmpL_tot {α : Type} {c : α → α → Int} (h : Tot c) : Tot (cmpL c) := by
  constructor
  · intro a
    induction a with
    | nil => intro b; cases b <;> rfl
    | cons x a ih =>
      intro b
      cases b with
      | nil => rfl
      | cons y b =>
        show (if c y x = 0 then cmpL c b a else c y x) = - (if c x y = 0 then cmpL c a b else c x y)
        have h1 := h.anti x y
        by_cases h2 : c x y = 0
        · rw [if_pos h2, if_pos (by omega)]; exact ih b
        · rw [if_neg h2, if_neg (by omega)]; exact h1
  · intro a
    induction a with
    | nil => intro b z _ _; cases z with | nil => exact Int.le_refl _ | cons => show (-1 : Int) ≤ 0; omega
    | cons x a ih =>
      intro b z h1 h2
      cases b with
      | nil => exact absurd h1 (by show ¬ (1 : Int) ≤ 0; omega)
      | cons y b =>
        cases z with
        | nil => exact absurd h2 (by show ¬ (1 : Int) ≤ 0; omega)
        | cons z d =>
          have h1' : (if c x y = 0 then cmpL c a b else c x y) ≤ 0 := h1
          have h2' : (if c y z = 0 then cmpL c b d else c y z) ≤ 0 := h2
          show (if c x z = 0 then cmpL c a d else c x z) ≤ 0
          by_cases g1 : c x y = 0
          · rw [if_pos g1] at h1'
            by_cases g2 : c y z = 0
            · rw [if_pos g2] at h2'
              rw [if_pos (h.eq g1 g2)]
              exact ih b d h1' h2'
            · rw [if_neg g2] at h2'
              have := h.lt_r (x := x) (y := y) (z := z) (by omega) (by omega)
              rw [if_neg (by omega)]; omega
          · rw [if_neg g1] at h1'
            have h3 : c y z ≤ 0 := by
              by_cases g2 : c y z = 0
              · omega
              · rw [if_neg g2] at h2'; exact h2'
            have := h.lt_l (x := x) (y := y) (z := z) (by omega) h3
            rw [if_neg (by omega)]; omega
theorem cmpF_tot {c : V → V → Int} (h : Tot c) : Tot (cmpF c) := by
  constructor
  · intro x y
    have h1 := cb_tot.anti x.1 y.1
    have h2 := h.anti x.2 y.2
    try simp only at h1
    unfold cmpF orI
    by_cases g : cb x.1.data.toList y.1.data.toList = 0
    · rw [if_pos g, if_pos (by omega)]; exact h2
    · rw [if_neg g, if_neg (by omega)]; exact h1
  · intro x y z h1 h2
    unfold cmpF orI at h1 h2 ⊢
    by_cases g1 : cb x.1.data.toList y.1.data.toList = 0
    · rw [if_pos g1] at h1
      by_cases g2 : cb y.1.data.toList z.1.data.toList = 0
      · rw [if_pos g2] at h2
        rw [if_pos (cb_tot.eq g1 g2)]
        exact h.trans _ _ _ h1 h2
      · rw [if_neg g2] at h2
        have := cb_tot.lt_r (x := x.1) (y := y.1) (z := z.1) (by omega) (by omega)
        try simp only at this
        rw [if_neg (by omega)]; omega
    · rw [if_neg g1] at h1
      have h3 : cb y.1.data.toList z.1.data.toList ≤ 0 := by
        by_cases g2 : cb y.1.data.toList z.1.data.toList = 0
        · omega
        · rw [if_neg g2] at h2; exact h2
      have := cb_tot.lt_l (x := x.1) (y := y.1) (z := z.1) (by omega) h3
      try simp only at this
      rw [if_neg (by omega)]; omega
/-- The parts of one kind, held against one another. -/
def inK (d : Nat) (k : Int) (a b : V) : Int :=
  if k = 1 ∨ k = 2 then sgn a.i b.i else if k = 3 then cb a.t.data.toList b.t.data.toList
  else if k = 4 then cmpL (cmpV d) a.l b.l else if k = 5 then cmpL (cmpF (cmpV d)) a.f b.f else 0
theorem cmpV_def (d : Nat) (a b : V) : cmpV (d + 1) a b = if a.k = b.k then inK d a.k a b else sgn a.k b.k := rfl
theorem inK_tot {d : Nat} (h : Tot (cmpV d)) (k : Int) : Tot (inK d k) := by
  unfold inK
  by_cases h1 : k = 1 ∨ k = 2
  · simp only [if_pos h1]; exact ⟨fun x y => sgn_tot.anti _ _, fun x y z => sgn_tot.trans _ _ _⟩
  · simp only [if_neg h1]
    by_cases h3 : k = 3
    · simp only [if_pos h3]; exact ⟨fun x y => cb_tot.anti _ _, fun x y z => cb_tot.trans _ _ _⟩
    · simp only [if_neg h3]
      by_cases h4 : k = 4
      · simp only [if_pos h4]; exact ⟨fun x y => (cmpL_tot h).anti _ _, fun x y z => (cmpL_tot h).trans _ _ _⟩
      · simp only [if_neg h4]
        by_cases h5 : k = 5
        · simp only [if_pos h5]; exact ⟨fun x y => (cmpL_tot (cmpF_tot h)).anti _ _, fun x y z => (cmpL_tot (cmpF_tot h)).trans _ _ _⟩
        · simp only [if_neg h5]; exact ⟨fun x y => rfl, fun x y z _ _ => Int.le_refl _⟩
theorem cmpV_tot : ∀ d, Tot (cmpV d)
  | 0 => ⟨fun _ _ => rfl, fun _ _ _ _ _ => Int.le_refl _⟩
  | d + 1 => by
    have h := cmpV_tot d
    constructor
    · intro x y
      rw [cmpV_def, cmpV_def]
      by_cases g : x.k = y.k
      · rw [if_pos g, if_pos g.symm, ← g]; exact (inK_tot h x.k).anti x y
      · rw [if_neg g, if_neg (Ne.symm g)]; exact sgn_tot.anti _ _
    · intro x y z h1 h2
      rw [cmpV_def] at h1 h2 ⊢
      by_cases g1 : x.k = y.k
      · rw [if_pos g1] at h1
        by_cases g2 : y.k = z.k
        · rw [if_pos g2, ← g1] at h2
          rw [if_pos (g1.trans g2)]
          exact (inK_tot h x.k).trans x y z h1 h2
        · rw [if_neg g2] at h2
          rw [if_neg (by rw [g1]; exact g2), g1]; exact h2
      · rw [if_neg g1] at h1
        have h1' : x.k < y.k := by unfold sgn at h1; (repeat' split at h1) <;> omega
        have h2' : y.k ≤ z.k := by
          by_cases g2 : y.k = z.k
          · omega
          · rw [if_neg g2] at h2
            unfold sgn at h2; (repeat' split at h2) <;> omega
        rw [if_neg (by omega)]
        unfold sgn
        rw [if_pos (by omega)]
        omega
/-- Only -1, 0, 1. -/
def Unit3 {α : Type} (c : α → α → Int) : Prop := ∀ x y, -1 ≤ c x y ∧ c x y ≤ 1
theorem sgn_unit : Unit3 sgn := fun x y => by unfold sgn; (repeat' split) <;> omega
theorem cb_unit (a b : List UInt8) : -1 ≤ cb a b ∧ cb a b ≤ 1 := by rcases cb_cases a b with h | h | h <;> omega
theorem cmpL_unit {α : Type} {c : α → α → Int} (h : Unit3 c) : Unit3 (cmpL c) := by
  intro a
  induction a with
  | nil => intro b; cases b with | nil => show -1 ≤ (0 : Int) ∧ (0 : Int) ≤ 1; omega | cons => show -1 ≤ (-1 : Int) ∧ (-1 : Int) ≤ 1; omega
  | cons x a ih =>
    intro b
    cases b with
    | nil => show -1 ≤ (1 : Int) ∧ (1 : Int) ≤ 1; omega
    | cons y b =>
      show -1 ≤ (if c x y = 0 then cmpL c a b else c x y) ∧ (if c x y = 0 then cmpL c a b else c x y) ≤ 1
      split
      · exact ih b
      · exact h x y
theorem cmpF_unit {c : V → V → Int} (h : Unit3 c) : Unit3 (cmpF c) := fun x y => by
  unfold cmpF orI
  split
  · exact h _ _
  · exact cb_unit _ _
theorem cmpV_unit : ∀ d, Unit3 (cmpV d)
  | 0 => fun _ _ => by show -1 ≤ (0 : Int) ∧ (0 : Int) ≤ 1; omega
  | d + 1 => fun x y => by
    have h := cmpV_unit d
    rw [cmpV_def]
    split
    · unfold inK
      split
      · exact sgn_unit _ _
      · split
        · exact cb_unit _ _
        · split
          · exact cmpL_unit h _ _
          · split
            · exact cmpL_unit (cmpF_unit h) _ _
            · omega
    · exact sgn_unit _ _

end Go.Proofs.YtmeebjjdceokeaaDoor
