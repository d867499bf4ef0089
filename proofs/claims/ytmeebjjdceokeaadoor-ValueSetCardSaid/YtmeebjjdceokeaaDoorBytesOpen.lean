/- Bytes that came in, opened. -/
import Derived.Test.YtmeebjjdceokeaaDoorOfV
import Derived.OpenShut
import Derived.Stop.Joined
import Derived.ProofKit
namespace Go.Proofs.YtmeebjjdceokeaaDoor
open Go.RowKit Go.ChangeShapes Go.WideShapes
set_option linter.unusedVariables false

/-- A slice of bytes that came in. -/
theorem bytes_open {H : Type} {enc : TypeId × Value → H} {w : World} {base : Nat} {spare : Nat → Bool} {held : Bool} {fuel : Nat} {v : Value} {x : DataW H × List MemPlace}
    (h : DataW.trod enc Tryd.prog w base spare held fuel 22 [v] = some x) : ∃ A n cap zs, v = .slice A n cap ∧ Bytes w.heap.size w A n cap zs := by
  rcases open_ints Tryd.underlying22 Tryd.underlying5 (by kernel_rfl) h with ⟨hcs, _⟩ | ⟨ad, l, c, zs, hcs, _, hl, hm, hz, _, hcell, hwz⟩
  · simp at hcs
    exact ⟨none, 0, 0, [], hcs, Bytes.none_⟩
  · simp at hcs
    have hzl : l ≤ zs.length := by rw [hz]; split <;> omega
    refine ⟨some ad, l, c, zs.take l, hcs, by rw [List.length_take]; omega, hl, by simp only [maxLen] at hm; omega, fun h0 => ?_, fun z hz' => wf_u8 (hwz z (List.mem_of_mem_take hz'))⟩
    obtain ⟨b, off, spot⟩ := ad
    have h1 := hcell 0 (by omega)
    have hspot : spot = none := by simpa [Addr.add] using World.cell?_spot h1
    subst hspot
    refine ⟨b, off, rfl, World.block_lt_of_cell? w _ (by simpa [Addr.add] using h1), fun i hi => ?_⟩
    have h2 := hcell i (by omega)
    rw [Addr.add_lit] at h2
    rw [h2, List.getD_eq_getElem?_getD, List.getD_eq_getElem?_getD, List.getElem?_take, if_pos hi]

end Go.Proofs.YtmeebjjdceokeaaDoor
