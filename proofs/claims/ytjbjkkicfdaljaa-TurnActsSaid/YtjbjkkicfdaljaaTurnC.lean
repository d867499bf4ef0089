/- The walks over package turn, continued: New, Set, Drop; and the deeds of layer 23's laws. -/
import Derived.Test.YtjbjkkicfdaljaaTurnB
import Derived.Test.YtjbjkkicfdaljaaCuts
import Derived.Deep.RegionLaw
namespace Go.Proofs.Ytjbjkkicfdaljaa
open Go.RowKit
set_option linter.unusedVariables false

theorem new_any (w : World) :
    Calls Try.prog 10 #[] w fun e w' => e = .returned (.pointer (some ⟨w.heap.size, 0, none⟩)) ∧ Tab w.heap.size w' w.heap.size [] ∧ Below w.heap.size w w' := by
  go_enter Try.func10, Try.ntmps10
  go_wp2
  go_ret
  exact ⟨rfl, ⟨Nat.le_refl _, _, heap_alloc_new w _, World.ownsRow_nil _ _ _ _⟩, balloc _⟩


theorem stored_runs {B g n cap : Nat} {w : World} {l : List One} (h : w.ownsRow B 53 3 (.slice (some ⟨g, 0, none⟩) n cap) n (flat l)) (hBg : B ≤ g) (i : Nat) (hi : i < l.length) (a : Bool) :
    (w.setCell ⟨g, i * 3 + 1, none⟩ (.bool a)).ownsRow B 53 3 (.slice (some ⟨g, 0, none⟩) n cap) n (flat (l.set i (withRuns (ith l i) a))) ∧ Only [53] B w (w.setCell ⟨g, i * 3 + 1, none⟩ (.bool a)) := by
  have hs := World.ownsRow.stored h (i * 3 + 1) (.bool a)
  rw [flat_set_runs l a i hi] at hs
  refine ⟨hs.1, Only.setCell _ (by exact hBg) (T := 53) (by decide) ?_⟩
  exact (ownsRow_hasT h g rfl).2

theorem set_any (l : List One) (B p : Nat) (id : Int) (r : Bool) (w : World) (h : Tab B w p l) (hl : l.length < 1000000000000) :
    Calls Try.prog 13 #[.pointer (some ⟨p, 0, none⟩), .int .i64 id, .bool r] w fun e w' => e = .returned (.bool (hasId l id)) ∧ Tab B w' p (setL l id r) ∧ Only [50, 53] B w w' := by
  by_cases hi : idx l id < l.length
  · have h1 : idxI l id = (idx l id : Int) := by unfold idxI; rw [if_pos hi]
    have H2 := hid_mk ((idx_lt_iff l id).1 hi)
    by_cases hrr : (ith l (idx l id)).runs = r
    · have HA : Hid (setL l id r = l) := by unfold setL; rw [if_pos hi, if_pos hrr]; exact rfl
      have hbne : ((ith l (idx l id)).runs == r) = true := by rw [hrr]; simp
      clear hrr
      go_enter Try.func13, Try.ntmps13
      go_wp2_with fail
      refine (at_any l B _ _ _ h).mono ?_
      rintro e w0 ⟨rfl, hb⟩
      obtain ⟨hB, v, hp, hr⟩ := h.below hb
      obtain ⟨A, cap, rfl, hm, hA, hcs⟩ := hr.cells
      obtain ⟨g, rfl, hg, hBg⟩ := hA (by omega)
      obtain ⟨d0, d1, d2⟩ := hcs _ hi g rfl
      have hc := cell_of_one hp
      go_wp2_with fail
      go_ret
      exact ⟨ret_bool (by rw [H2.out]), by rw [HA.out]; exact ⟨hB, _, hp, hr⟩, .of_below hb⟩
    · have HA : Hid (setL l id r = l.set (idx l id) ⟨(ith l (idx l id)).id, r, 0⟩) := by unfold setL; rw [if_pos hi, if_neg hrr]; exact rfl
      have hbne : ((ith l (idx l id)).runs == r) = false := by simpa using hrr
      clear hrr
      go_enter Try.func13, Try.ntmps13
      go_wp2_with fail
      refine (at_any l B _ _ _ h).mono ?_
      rintro e w0 ⟨rfl, hb⟩
      obtain ⟨hB, v, hp, hr⟩ := h.below hb
      obtain ⟨A, cap, rfl, hm, hA, hcs⟩ := hr.cells
      obtain ⟨g, rfl, hg, hBg⟩ := hA (by omega)
      obtain ⟨d0, d1, d2⟩ := hcs _ hi g rfl
      have hc := cell_of_one hp
      have hf1 := World.ownsRow.frozenAt hr (idx l id * 3 + 1)
      have hf2 := World.ownsRow.frozenAt hr (idx l id * 3 + 2)
      have hpg : p ≠ g := by
        rintro rfl
        obtain ⟨_, cs, fr, hb'⟩ := ownsRow_hasT hr p rfl
        rw [hp] at hb'
        injection hb' with hb'
        injection hb' with _ e'
        exact absurd e' (by decide)
      go_wp2_with fail
      go_ret
      have S1 := stored_runs hr hBg (idx l id) hi r
      have S2 := stored_age S1.1 hBg (idx l id) (by simpa using hi) 0
      refine ⟨ret_bool (by rw [H2.out]), ⟨hB, _, (S1.2.trans S2.2).at_ hp (by decide), ?_⟩, (Only.of_below hb).trans ((S1.2.trans S2.2).wider (by decide))⟩
      have S3 := S2.1
      rw [ith_set _ _ _ _ hi, if_pos rfl, List.set_set] at S3
      rw [HA.out]
      unfold Row
      rw [List.length_set]
      exact S3
  · have h1 : idxI l id = -1 := by unfold idxI; rw [if_neg hi]
    have H2 : Hid (hasId l id = false) := by
      have : hasId l id = false := by rw [← Bool.not_eq_true, ← idx_lt_iff]; exact hi
      exact this
    have HA : Hid (setL l id r = l) := by unfold setL; rw [if_neg hi]; exact rfl
    go_enter Try.func13, Try.ntmps13
    go_wp2_with fail
    refine (at_any l B _ _ _ h).mono ?_
    rintro e w0 ⟨rfl, hb⟩
    go_wp2_with fail
    go_ret
    refine ⟨ret_bool H2.out.symm, ?_, .of_below hb⟩
    rw [HA.out]
    exact h.below hb

/-! ### slices.Delete of one; Drop -/
theorem zero53 : ∀ w, (zeroValue 53).run Try.prog w = .ok (.agg #[.int .i64 0, .bool false, .int .i64 0]) w := fun w => by kernel_rfl

theorem delete_one (B g n cap k : Nat) (xs : List Value) (w : World) (h : w.ownsRow B 53 3 (.slice (some ⟨g, 0, none⟩) n cap) n xs) (hk : k < n) (hcap : n ≤ cap) (hcap2 : cap ≤ 9223372036854775807) (h1 : ∀ u ∈ xs, u.oneCell' = true) :
    Calls Try.prog 23 #[.slice (some ⟨g, 0, none⟩) n cap, .int .i64 k, .int .i64 ((k : Int) + 1)] w fun e w' =>
      e = .returned (.slice (some ⟨g, 0, none⟩) (n - 1) cap) ∧ w'.ownsRow B 53 3 (.slice (some ⟨g, 0, none⟩) (n - 1) cap) (n - 1) (xs.take (k * 3) ++ xs.drop ((k + 1) * 3)) ∧ Only [53] B w w' := by
  obtain ⟨i0, hi0, hz0, hz1, hz2⟩ := info_parts info53
  have hne : ((k : Int) == (k : Int) + 1) = false := beq_eq_false_iff_ne.2 (by omega)
  have hBg := (ownsRow_hasT h g rfl).1
  obtain ⟨A, hA, HA⟩ : ∃ A : Addr, (if cap = k + 1 then some (⟨g, 0, none⟩ : Addr) else some ⟨g, (k + 1) * 3, none⟩) = some A ∧ Hid (k + 1 < n → A = ⟨g, (k + 1) * 3, none⟩) := by
    by_cases hc : cap = k + 1
    · exact ⟨_, by rw [if_pos hc], fun h => by omega⟩
    · exact ⟨_, by rw [if_neg hc], fun _ => rfl⟩
  have hwr : IntKind.i64.wrap ((k : Int) + 1) = (k : Int) + 1 := by rw [IntKind.wrap_i64]; omega
  have hp0 : (0 : Int) ≤ (k : Int) + 1 := by omega
  have hp1 : (k : Int) + 1 ≤ (n : Int) := by omega
  have hp2 : ((k : Int) + 1).toNat = k + 1 := by omega
  have hkc : k ≤ cap := by omega
  go_enter Try.func23, Try.ntmps23
  go_wp2_with fail
  go_region_law (refine step_cut (w := w.drew) h k (k + 1) (by omega) (by omega) h1 rfl (.tmp 22) (.tmp 25) 48 rfl i0 Try.underlying48 hi0 hz1 (by simp [Act.eval, Act.put]) A (n - (k + 1)) (cap - (k + 1)) (by simp [Act.eval, Act.put]) HA.out rfl ?_; intro w1 hown1 hg1)
  generalize hq : k + (n - (k + 1)) = q at *
  have HQ : Hid (n - 1 = q) := hid_mk (by omega)
  have hqn : q < n := by omega
  have hq1 : q ≤ n := by omega
  have hq2 : ¬ cap = q := by omega
  have HG := Only.grown (Ts := [53]) (B := B) hg1 (fun j hj => by
    have e : g = j := by simpa using hj
    subst e
    exact ⟨hBg, _, List.mem_cons_self .., (ownsRow_hasT h g rfl).2⟩)
  clear hq hg1 hA
  go_wp2_with (refine wpList_clear_own rfl (.tmp 31) 48 rfl hown1 (n - q) (cap - q) _ rfl (by omega) (by omega) rfl Try.underlying48 _ zero53 rfl (by intro u hu; simp [Value.cells] at hu; rcases hu with rfl | rfl | rfl <;> rfl) ?_; intro w2 hown2 hg2)
  go_ret
  rw [HQ.out]
  refine ⟨rfl, hown2, (Only.drew (Only.refl _ _ w)).trans (HG.trans (Only.grown hg2 fun j hj => ?_))⟩
  have e : g = j := by simpa using hj
  subst e
  exact ⟨hBg, _, List.mem_cons_self .., (ownsRow_hasT hown1 g rfl).2⟩

theorem flat_cells (l : List One) : ∀ u ∈ flat l, u.oneCell' = true := by
  intro u hu
  unfold flat at hu
  obtain ⟨x, _, hx⟩ := List.mem_flatMap.1 hu
  simp only [One.cells, List.mem_cons, List.not_mem_nil, or_false] at hx
  rcases hx with rfl | rfl | rfl <;> rfl


theorem drop_any (l : List One) (B p : Nat) (id : Int) (w : World) (h : Tab B w p l) (hl : l.length < 1000000000000) :
    Calls Try.prog 18 #[.pointer (some ⟨p, 0, none⟩), .int .i64 id] w fun e w' => e = .returned (.bool (hasId l id)) ∧ Tab B w' p (dropL l id) ∧ Only [50, 53] B w w' := by
  by_cases hi : idx l id < l.length
  · have h1 : idxI l id = (idx l id : Int) := by unfold idxI; rw [if_pos hi]
    have H2 := hid_mk ((idx_lt_iff l id).1 hi)
    go_enter Try.func18, Try.ntmps18
    go_wp2_with fail
    refine (at_any l B _ _ _ h).mono ?_
    rintro e w0 ⟨rfl, hb⟩
    obtain ⟨hB, v, hp, hr⟩ := h.below hb
    obtain ⟨A, cap, rfl, hlc, hcm, hA⟩ := ownsRow_shape hr
    obtain ⟨g, rfl, hBg, _⟩ := hA (by omega)
    have hc := cell_of_one hp
    have hcm2 : cap ≤ 9223372036854775807 := by simp only [maxLen] at hcm; omega
    clear hA hcm
    go_wp2_with fail
    refine (delete_one B g _ _ _ _ _ hr hi hlc hcm2 (flat_cells l)).mono ?_
    rintro e w1 ⟨rfl, hown, honly⟩
    have hp1 := honly.at_ hp (by decide)
    have hc1 := cell_of_one hp1
    have hf1 := free_of_one hp1
    go_wp2_with fail
    go_ret
    have hown2 : Row B w1 (.slice (some ⟨g, 0, none⟩) (l.length - 1) cap) (dropL l id) := by
      unfold Row dropL
      rw [List.length_eraseIdx, if_pos hi, ← flat_eraseIdx l _ hi]
      rw [show idx l id * 3 + 3 = (idx l id + 1) * 3 by omega]
      exact hown
    have HS := tab_store hB hp honly hown2
    exact ⟨ret_bool (by rw [H2.out]), HS.1, (Only.of_below hb).trans HS.2⟩
  · have h1 : idxI l id = -1 := by unfold idxI; rw [if_neg hi]
    have H2 : Hid (hasId l id = false) := by
      have : hasId l id = false := by rw [← Bool.not_eq_true, ← idx_lt_iff]; exact hi
      exact this
    have HA : Hid (dropL l id = l) := hid_mk (List.eraseIdx_of_length_le (by omega))
    go_enter Try.func18, Try.ntmps18
    go_wp2_with fail
    refine (at_any l B _ _ _ h).mono ?_
    rintro e w0 ⟨rfl, hb⟩
    go_wp2_with fail
    go_ret
    refine ⟨ret_bool H2.out.symm, ?_, .of_below hb⟩
    rw [HA.out]
    exact h.below hb

end Go.Proofs.Ytjbjkkicfdaljaa
