/- Records numbered from 1 on. -/
import Derived.Test.YtlehgmfpblifkaaDoorHeapF
namespace Go.Proofs.YtlehgmfpblifkaaDoor
open Go.RowKit
set_option linter.unusedVariables false

theorem wf_u16 {z : Int} (h : (Lit.int .u16 z).wf = true) : 0 ≤ z ∧ z ≤ 65535 := by
  simp [Lit.wf, IntKind.min, IntKind.max, IntKind.bits, IntKind.signed] at h
  omega
def rI (j : Int) : Rv := ⟨2, j, ⟨#[]⟩, ⟨none, 0, 0⟩, ⟨none, 0, 0⟩⟩
def fullD (m : Nat) : List Dc := (List.range m).map fun (j : Nat) => (⟨(j : Int) + 1, rI (j : Int)⟩ : Dc)
theorem fullD_length (m : Nat) : (fullD m).length = m := by simp [fullD]
theorem fullD_succ (m : Nat) : fullD (m + 1) = fullD m ++ [⟨(m : Int) + 1, rI m⟩] := by unfold fullD; rw [List.range_succ, List.map_append]; rfl
theorem fullD_asc (m : Nat) : Asc (fullD m) := by
  unfold Asc fullD
  rw [List.pairwise_map]
  refine List.Pairwise.imp ?_ (List.pairwise_lt_range (n := m))
  intro a b h
  show (a : Int) + 1 < (b : Int) + 1
  omega
theorem fullD_has (m : Nat) (g : Int) (h0 : 0 ≤ g) : hasD (fullD m) (g + 1) = decide (g < (m : Int)) := by
  unfold hasD fullD
  by_cases h : g < (m : Int)
  · rw [decide_eq_true h, List.any_eq_true]
    refine ⟨⟨(g.toNat : Int) + 1, rI g.toNat⟩, List.mem_map.2 ⟨g.toNat, List.mem_range.2 (by omega), rfl⟩, ?_⟩
    simp only [decide_eq_true_eq]
    omega
  · rw [decide_eq_false h, List.any_eq_false]
    intro x hx
    obtain ⟨j, hj, rfl⟩ := List.mem_map.1 hx
    have := List.mem_range.1 hj
    simp only [decide_eq_true_eq]
    omega
theorem delD_length {ds : List Dc} {id : Int} (hs : Asc ds) : (delD ds id).length = if hasD ds id = true then ds.length - 1 else ds.length := by
  unfold delD
  by_cases h : hasD ds id = true
  · rw [if_pos h, if_pos h, List.length_append, List.length_take, List.length_drop]
    have := (has_at hs h).1
    omega
  · rw [if_neg h, if_neg h]

end Go.Proofs.YtlehgmfpblifkaaDoor
