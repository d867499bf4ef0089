/- Entries that came in, opened. -/
import Derived.Test.YtfkhbppkdapkcaaTreeB
import Derived.Test.YtfkhbppkdapkcaaStructs
namespace Go.Proofs.Ytfkhbppkdapkcaa
open Go.RowKit Go.ChangeShapes Go.WideShapes Go.Deep
set_option linter.unusedVariables false

/-- A slice of entries. -/
def InEs (w : World) (A : Option Addr) (n cap : Nat) (xs : List E) : Prop :=
  xs.length = n ∧ n ≤ cap ∧ cap ≤ 9223372036854775807 ∧ (0 < n → ∃ b off, A = some ⟨b, off, none⟩ ∧ b < w.heap.size ∧ ∀ i, i < n → w.cell? ⟨b, off + i * 2, none⟩ = some (.string (ge xs i).key) ∧ w.cell? ⟨b, off + i * 2 + 1, none⟩ = some (.int .i64 (ge xs i).id))
theorem choose_ltE {n : Nat} {p : Nat → E → Prop} (h : ∀ i, i < n → ∃ x, p i x) : ∃ f : Nat → E, ∀ i, i < n → p i (f i) := by
  classical
  refine ⟨fun i => if hi : i < n then (h i hi).choose else ⟨⟨#[]⟩, 0⟩, fun i hi => ?_⟩
  show p i (if hi : i < n then (h i hi).choose else ⟨⟨#[]⟩, 0⟩)
  rw [dif_pos hi]
  exact (h i hi).choose_spec

theorem es_open {H : Type} {enc : TypeId × Value → H} {w : World} {base : Nat} {spare : Nat → Bool} {held : Bool} {fuel : Nat} {a : Option Addr} {len cap : Nat} {x : DataW H × List MemPlace}
    (h : DataW.trod enc Try.prog w base spare held fuel 33 [.slice a len cap] = some x) : ∃ xs, InEs w a len cap xs := by
  obtain ⟨hl, hm, hx⟩ := in_structs Try.underlying33 Try.underlying28 (by kernel_rfl) (by kernel_rfl) (by decide) h
  have hm2 : cap ≤ 9223372036854775807 := by simp only [maxLen] at hm; omega
  rcases Nat.eq_zero_or_pos len with h0 | h0
  · subst h0
    exact ⟨[], rfl, hl, hm2, fun h => absurd h (by omega)⟩
  · obtain ⟨b, off, rfl, hb, hc⟩ := hx h0
    obtain ⟨f, hf⟩ := choose_ltE (n := len) (p := fun i d => w.cell? ⟨b, off + i * 2, none⟩ = some (.string d.key) ∧ w.cell? ⟨b, off + i * 2 + 1, none⟩ = some (.int .i64 d.id)) (fun i hi => by
      obtain ⟨v0, y0, n0, c0, t0⟩ := hc i hi 0 _ rfl
      obtain ⟨v1, y1, n1, c1, t1⟩ := hc i hi 1 _ rfl
      obtain ⟨k, e0, _, hk⟩ := DataW.trod_string Try.underlying9 t0
      obtain ⟨id, e1, _, hid⟩ := DataW.trod_int Try.underlying2 t1
      simp only [List.cons.injEq, and_true] at e0 e1
      subst e0 e1
      exact ⟨⟨k, id⟩, c0, c1⟩)
    have hd : ∀ i, i < len → ge ((List.range len).map f) i = f i := by
      intro i hi
      unfold ge
      rw [List.getD_eq_getElem?_getD, List.getElem?_eq_getElem (by simpa using hi)]
      simp
    refine ⟨(List.range len).map f, by simp, hl, hm2, fun _ => ⟨b, off, rfl, hb, fun i hi => by rw [hd i hi]; exact hf i hi⟩⟩

end Go.Proofs.Ytfkhbppkdapkcaa
