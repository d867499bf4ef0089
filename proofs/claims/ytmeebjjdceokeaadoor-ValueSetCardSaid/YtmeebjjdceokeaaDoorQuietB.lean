/- A region that draws its order and whose calls may make memory: nothing that existed changes. -/
import Derived.Test.YtmeebjjdceokeaaDoorBase
namespace Go.Proofs.YtmeebjjdceokeaaDoor
open Go.RowKit
set_option linter.unusedVariables false

/-- A world that differs from W in new blocks alone. -/
structure BW (W : World) where
  w : World
  h : Below W.heap.size W w
instance (W : World) : Nonempty (BW W) := ⟨⟨W, Below.refl _ _⟩⟩
theorem BW.cell {W : World} (x : BW W) {a : Addr} {v : Value} (h : W.cell? a = some v) : x.w.cell? a = some v := (x.h.cell (World.block_lt_of_cell? W a h)).trans h
theorem BW.step {W : World} (x : BW W) {w' : World} (h : Below x.w.heap.size x.w w') : ∃ y : BW W, w' = y.w := ⟨⟨w', x.h.trans (h.mono x.h.size)⟩, rfl⟩

theorem wp_region_bw {P : Program} {id : Nat} {Q : Exit → Act → World → Prop} {a : Act} {w : World} (W : World) {l : List Oper} (hm : P.follows .mixedOrders = true) (hB : Region.lexB .any l.toArray = true) (hW : Below W.heap.size W w)
    (h : wpQuiet P l.toArray (fun w' => ∃ x : BW W, w' = x.w) (fun a' => ∀ w', (∃ x : BW W, w' = x.w) → Q .normal a' w') l a) : (Code.region id l.toArray true).wp P Q a w :=
  wp_region_quiet (C := fun w' => ∃ x : BW W, w' = x.w) hm hB ⟨⟨w.drew, pw_below (n := 1) hW⟩, rfl⟩ (by simpa using h)

end Go.Proofs.YtmeebjjdceokeaaDoor
