/- A range and a mark that came in, opened. -/
import Derived.Test.YtanomhjekdefeaaWalkPure
import Derived.Test.YtanomhjekdefeaaProg
import Derived.Lib.SmallJoins
namespace Go.Proofs.Ytanomhjekdefeaa
open Go.ChangeShapes Go.WideShapes Go.RowKit Go.Joins
set_option linter.unusedVariables false

section
variable {H : Type} {enc : TypeId × Value → H} {w : World} {base : Nat} {spare : Nat → Bool} {held : Bool}
theorem rng_open {r : Reach} {b0 : Nat} {v : Value} {d : DataW H} {p : List MemPlace} (hv : Value.okWide Try.prog w r b0 29 v) (h : DataW.Trod enc Try.prog w base spare held 29 v d p) :
    ∃ x : Rg, v = .agg #[.string x.f, .string x.t, .bool x.dn] := by
  obtain ⟨v0, v1, v2, y0, y1, y2, n, rfl, _, _, t0, t1, t2⟩ := open_agg3 Try.underlying29 (by kernel_rfl) (by kernel_rfl) hv h
  obtain ⟨x0, e0, _, _⟩ := DataW.trod_string Try.underlying9 t0
  obtain ⟨x1, e1, _, _⟩ := DataW.trod_string Try.underlying9 t1
  obtain ⟨x2, e2, _⟩ := DataW.trod_bool Try.underlying4 t2
  simp only [List.cons.injEq, and_true] at e0 e1 e2
  subst e0 e1 e2
  exact ⟨⟨x0, x1, x2⟩, rfl⟩
theorem mark_open {r : Reach} {b0 : Nat} {v : Value} {d : DataW H} {p : List MemPlace} (hv : Value.okWide Try.prog w r b0 36 v) (h : DataW.Trod enc Try.prog w base spare held 36 v d p) :
    ∃ x : Mk, v = .agg #[.string x.e.key, .int .i64 x.e.id, .bool x.b] := by
  obtain ⟨cs, rfl, hsz⟩ := okWide_struct Try.underlying36 hv
  obtain ⟨c0, c1, c2, rfl⟩ := array3 (hsz.trans (show Try.prog.cellsOf 36 = 3 by kernel_rfl))
  obtain ⟨fuel, hf⟩ := h
  obtain ⟨y0, y1, n, hx, _, h0, h1⟩ := trod_struct2 Try.underlying36 hf
  have k2 : Try.prog.cellsOf 34 = 2 := by kernel_rfl
  have k1 : Try.prog.cellsOf 4 = 1 := by kernel_rfl
  have h0' : DataW.trod enc Try.prog w base spare held n 34 [c0, c1] = some y0 := by simpa [Value.cells, k2] using h0
  have h1' : DataW.trod enc Try.prog w base spare held n 4 [c2] = some y1 := by simpa [Value.cells, k1] using h1
  obtain ⟨z0, z1, n2, _, _, g0, g1⟩ := trod_struct2 Try.underlying34 h0'
  have k3 : Try.prog.cellsOf 9 = 1 := by kernel_rfl
  have k4 : Try.prog.cellsOf 2 = 1 := by kernel_rfl
  have g0' : DataW.trod enc Try.prog w base spare held n2 9 [c0] = some z0 := by simpa [k3] using g0
  have g1' : DataW.trod enc Try.prog w base spare held n2 2 [c1] = some z1 := by simpa [k4] using g1
  obtain ⟨x0, e0, _, _⟩ := DataW.trod_string Try.underlying9 g0'
  obtain ⟨x1, e1, _, _⟩ := DataW.trod_int Try.underlying2 g1'
  obtain ⟨x2, e2, _⟩ := DataW.trod_bool Try.underlying4 h1'
  simp only [List.cons.injEq, and_true] at e0 e1 e2
  subst e0 e1 e2
  exact ⟨⟨⟨x0, x1⟩, x2⟩, rfl⟩
end

end Go.Proofs.Ytanomhjekdefeaa
