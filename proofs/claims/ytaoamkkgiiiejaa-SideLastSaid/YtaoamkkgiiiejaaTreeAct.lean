/- Deeds that came in, opened. -/
import Derived.Test.YtaoamkkgiiiejaaTreeLs
import Derived.Test.YtaoamkkgiiiejaaStructs
namespace Go.Proofs.Ytaoamkkgiiiejaa
open Go.RowKit Go.ChangeShapes Go.WideShapes Go.Deep
set_option linter.unusedVariables false

def a8 (l : List A8) (i : Nat) : A8 := l.getD i ⟨0, 0, 0⟩
/-- A slice of deeds. -/
def InA8 (w : World) (A : Option Addr) (n cap : Nat) (xs : List A8) : Prop :=
  xs.length = n ∧ n ≤ cap ∧ cap ≤ 9223372036854775807 ∧ (∀ i, i < n → (a8 xs i).ok) ∧ (0 < n → ∃ b off, A = some ⟨b, off, none⟩ ∧ b < w.heap.size ∧ ∀ i, i < n → w.cell? ⟨b, off + i * 3, none⟩ = some (.int .u8 (a8 xs i).kind) ∧ w.cell? ⟨b, off + i * 3 + 1, none⟩ = some (.int .u8 (a8 xs i).key) ∧ w.cell? ⟨b, off + i * 3 + 2, none⟩ = some (.int .u8 (a8 xs i).id))
theorem choose_lt8 {n : Nat} {p : Nat → A8 → Prop} (h : ∀ i, i < n → ∃ x, p i x) : ∃ f : Nat → A8, ∀ i, i < n → p i (f i) := by
  classical
  refine ⟨fun i => if hi : i < n then (h i hi).choose else ⟨0, 0, 0⟩, fun i hi => ?_⟩
  show p i (if hi : i < n then (h i hi).choose else ⟨0, 0, 0⟩)
  rw [dif_pos hi]
  exact (h i hi).choose_spec

theorem a8_open {H : Type} {enc : TypeId × Value → H} {w : World} {base : Nat} {spare : Nat → Bool} {held : Bool} {fuel : Nat} {a : Option Addr} {len cap : Nat} {x : DataW H × List MemPlace}
    (h : DataW.trod enc Try.prog w base spare held fuel 22 [.slice a len cap] = some x) : ∃ xs, InA8 w a len cap xs := by
  obtain ⟨hl, hm, hx⟩ := in_structs Try.underlying22 Try.underlying33 (by kernel_rfl) (by kernel_rfl) (by decide) h
  have hm2 : cap ≤ 9223372036854775807 := by simp only [maxLen] at hm; omega
  rcases Nat.eq_zero_or_pos len with h0 | h0
  · subst h0
    exact ⟨[], rfl, hl, hm2, fun i hi => absurd hi (by omega), fun h => absurd h (by omega)⟩
  · obtain ⟨b, off, rfl, hb, hc⟩ := hx h0
    obtain ⟨f, hf⟩ := choose_lt8 (n := len) (p := fun i d => d.ok ∧ w.cell? ⟨b, off + i * 3, none⟩ = some (.int .u8 d.kind) ∧ w.cell? ⟨b, off + i * 3 + 1, none⟩ = some (.int .u8 d.key) ∧ w.cell? ⟨b, off + i * 3 + 2, none⟩ = some (.int .u8 d.id)) (fun i hi => by
      obtain ⟨v0, y0, n0, c0, t0⟩ := hc i hi 0 _ rfl
      obtain ⟨v1, y1, n1, c1, t1⟩ := hc i hi 1 _ rfl
      obtain ⟨v2, y2, n2, c2, t2⟩ := hc i hi 2 _ rfl
      obtain ⟨k, e0, _, hk⟩ := DataW.trod_int Try.underlying5 t0
      obtain ⟨y, e1, _, hy⟩ := DataW.trod_int Try.underlying5 t1
      obtain ⟨id, e2, _, hid⟩ := DataW.trod_int Try.underlying5 t2
      simp only [List.cons.injEq, and_true] at e0 e1 e2
      subst e0 e1 e2
      exact ⟨⟨k, y, id⟩, ⟨wf_u8 hk, wf_u8 hy, wf_u8 hid⟩, c0, c1, c2⟩)
    have hd : ∀ i, i < len → a8 ((List.range len).map f) i = f i := by
      intro i hi
      unfold a8
      rw [List.getD_eq_getElem?_getD, List.getElem?_eq_getElem (by simpa using hi)]
      simp
    refine ⟨(List.range len).map f, by simp, hl, hm2, fun i hi => by rw [hd i hi]; exact (hf i hi).1, fun _ => ⟨b, off, rfl, hb, fun i hi => by rw [hd i hi]; exact (hf i hi).2⟩⟩

end Go.Proofs.Ytaoamkkgiiiejaa
