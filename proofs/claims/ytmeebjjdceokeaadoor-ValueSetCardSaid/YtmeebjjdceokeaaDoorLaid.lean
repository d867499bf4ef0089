/- What the listed tables hold when the call begins. -/
import Derived.Test.YtmeebjjdceokeaaDoorRows
import Derived.Test.YtmeebjjdceokeaaDoorVal
import Derived.LaidMore
import Derived.OpenShut
import Derived.MakeChecks
import Derived.FnData
namespace Go.Proofs.YtmeebjjdceokeaaDoor
open Go.RowKit Go.ChangeShapes Go.WideShapes
set_option linter.unusedVariables false

theorem laid_mem {P : Program} {w : World} : ∀ {laid : List (String × DataW Unit)} {ps : List MemPlace}, DataW.LaidVars P w laid ps → ∀ x ∈ laid, ∃ g t cs fuel p, P.globalNamed x.1 = some g ∧ (P.globals[g]?).map (·.type) = some t ∧ w.var? P x.1 = some cs ∧ DataW.trod (fun _ => ()) P w 0 (fun _ => true) false fuel t cs.toList = some (x.2, p)
  | [], _, _, x, hx => absurd hx (by simp)
  | (n, d) :: r, ps, h, x, hx => by
    obtain ⟨g, t, cs, fuel, p, q, h1, h2, h3, h4, h5, _⟩ := h
    rcases List.mem_cons.1 hx with rfl | hx
    · exact ⟨g, t, cs, fuel, p, h1, h2, h3, h4⟩
    · exact laid_mem h5 x hx
/-- An array of strings, read. -/
theorem strs_at {P : Program} {w : World} {g n : Nat} {t e : TypeId} {name : String} {cs : Array Value} {fuel : Nat} {ds : List (DataW Unit)} {p : List MemPlace} (hg : P.globalNamed name = some g) (hv : w.var? P name = some cs)
    (ht : P.underlying t = some (.array n e)) (he : P.underlying e = some .string) (hc : P.cellsOf e = 1) (hd : DataW.trod (fun _ => ()) P w 0 (fun _ => true) false fuel t cs.toList = some (.agg ds, p)) (j : Nat) (hj : j < n) (s : List UInt8) (hs : ds[j]? = some (.lit (.string s))) :
    w.cell? ⟨g, j, none⟩ = some (.string ⟨⟨s⟩⟩) := by
  obtain ⟨xs, m, _, hx, _, hn, hel⟩ := DataW.trod_array ht hd
  simp only [Prod.mk.injEq, DataW.agg.injEq] at hx
  have h1 := hel j hj
  rw [List.getElem?_eq_getElem (show j < xs.length by omega)] at h1
  obtain ⟨b, hb, hy, _⟩ := DataW.trod_string he h1
  rw [hc, Nat.mul_one] at hb
  have h2 : cs.toList[j]? = some (.string b) := by
    have h3 : ((cs.toList.drop j).take 1)[0]? = some (.string b) := by rw [hb]; rfl
    rw [List.getElem?_take, if_pos (by omega), List.getElem?_drop] at h3
    exact h3
  rw [World.var?_cell hg hv j, ← Array.getElem?_toList, h2]
  rw [hx.1, List.getElem?_map, List.getElem?_eq_getElem (show j < xs.length by omega)] at hs
  simp only [Option.map_some, Option.some.injEq] at hs
  rw [hy] at hs
  simp only [DataW.lit.injEq, Lit.string.injEq] at hs
  rcases b with ⟨⟨b⟩⟩
  simp only at hs
  rw [hs]
theorem gWords : Tryd.prog.globalNamed "roundelay/roundelaylaw03.words" = some 0 := by kernel_rfl
theorem gNames : Tryd.prog.globalNamed "roundelay/roundelaylaw03.names" = some 1 := by kernel_rfl
theorem tWords : (Tryd.prog.globals[0]?).map (·.type) = some 62 := by kernel_rfl
theorem tNames : (Tryd.prog.globals[1]?).map (·.type) = some 63 := by kernel_rfl
theorem tabs_of {W : World} {laid : List (String × DataW Unit)} (h : laidMetH Tryd.prog laid W) (hp : (laid.all fun x => x.2.handleName?.isNone) = true) (h1 : ("roundelay/roundelaylaw03.words", Rows.laid_roundelay_roundelaylaw03_words) ∈ laid) (h2 : ("roundelay/roundelaylaw03.names", Rows.laid_roundelay_roundelaylaw03_names) ∈ laid) : Tabs W := by
  rw [MakeChecks.laidMetH_plain _ _ _ hp] at h
  obtain ⟨ps, hL, _⟩ := h
  constructor
  · obtain ⟨g, t, cs, fuel, p, hg, ht, hv, hd⟩ := laid_mem hL _ h1
    obtain rfl := Option.some.inj (gWords.symm.trans hg)
    obtain rfl := Option.some.inj (tWords.symm.trans ht)
    have hc : Tryd.prog.cellsOf 9 = 1 := by kernel_rfl
    intro j hj
    have hs := strs_at hg hv Tryd.underlying62 Tryd.underlying9 hc hd j hj
    rcases (by omega : j = 0 ∨ j = 1 ∨ j = 2 ∨ j = 3 ∨ j = 4 ∨ j = 5 ∨ j = 6 ∨ j = 7) with rfl | rfl | rfl | rfl | rfl | rfl | rfl | rfl <;> exact hs _ rfl
  · obtain ⟨g, t, cs, fuel, p, hg, ht, hv, hd⟩ := laid_mem hL _ h2
    obtain rfl := Option.some.inj (gNames.symm.trans hg)
    obtain rfl := Option.some.inj (tNames.symm.trans ht)
    have hc : Tryd.prog.cellsOf 9 = 1 := by kernel_rfl
    intro j hj
    have hs := strs_at hg hv Tryd.underlying63 Tryd.underlying9 hc hd j hj
    rcases (by omega : j = 0 ∨ j = 1 ∨ j = 2 ∨ j = 3) with rfl | rfl | rfl | rfl <;> exact hs _ rfl

end Go.Proofs.YtmeebjjdceokeaaDoor
