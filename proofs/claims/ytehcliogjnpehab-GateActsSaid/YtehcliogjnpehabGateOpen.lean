/- A slice of deeds that came in, opened. -/
import Derived.Test.YtehcliogjnpehabGateActs
import Derived.Test.YtehcliogjnpehabStructs
namespace Go.Proofs.Ytehcliogjnpehab
open Go.RowKit Go.ChangeShapes Go.WideShapes Go.Deep
set_option linter.unusedVariables false

theorem acts_open {H : Type} {enc : TypeId × Value → H} {w : World} {base : Nat} {spare : Nat → Bool} {held : Bool} {fuel : Nat} {a : Option Addr} {len cap : Nat} {x : DataW H × List MemPlace}
    (h : DataW.trod enc Try.prog w base spare held fuel 22 [.slice a len cap] = some x) : ∃ xs, InActs w a len cap xs := by
  obtain ⟨hl, hm, hx⟩ := in_structs Try.underlying22 Try.underlying28 (by kernel_rfl) (by kernel_rfl) (by decide) h
  have hm2 : cap ≤ 9223372036854775807 := by simp only [maxLen] at hm; omega
  rcases Nat.eq_zero_or_pos len with h0 | h0
  · subst h0
    exact ⟨[], rfl, hl, hm2, fun i hi => absurd hi (by omega), fun h => absurd h (by omega)⟩
  · obtain ⟨b, off, rfl, hb, hc⟩ := hx h0
    obtain ⟨f, hf⟩ := choose_lt (α := Deed) (n := len) (p := fun i d => d.ok ∧ w.cell? ⟨b, off + i * 2, none⟩ = some (.int .u8 d.kind) ∧ w.cell? ⟨b, off + i * 2 + 1, none⟩ = some (.int .u8 d.id)) (fun i hi => by
      obtain ⟨v0, y0, n0, c0, t0⟩ := hc i hi 0 _ rfl
      obtain ⟨v1, y1, n1, c1, t1⟩ := hc i hi 1 _ rfl
      obtain ⟨k, e0, _, hk⟩ := DataW.trod_int Try.underlying5 t0
      obtain ⟨id, e1, _, hid⟩ := DataW.trod_int Try.underlying5 t1
      simp only [List.cons.injEq, and_true] at e0 e1
      subst e0 e1
      have hk2 := wf_u8 hk
      have hid2 := wf_u8 hid
      exact ⟨⟨k, id⟩, ⟨hk2.1, hk2.2, hid2.1, hid2.2⟩, c0, c1⟩)
    have hd : ∀ i, i < len → dth ((List.range len).map f) i = f i := by
      intro i hi
      unfold dth
      rw [List.getD_eq_getElem?_getD, List.getElem?_eq_getElem (by simpa using hi)]
      simp
    refine ⟨(List.range len).map f, by simp, hl, hm2, fun i hi => by rw [hd i hi]; exact (hf i hi).1, fun _ => ⟨b, off, rfl, hb, fun i hi => by rw [hd i hi]; exact (hf i hi).2⟩⟩

end Go.Proofs.Ytehcliogjnpehab
