/- Layer 12's own helpers on rows that begin anywhere. -/
import Derived.Test.YtehcliogjnpehabOff
import Derived.Test.YtehcliogjnpehabGateActs
namespace Go.Proofs.Ytehcliogjnpehab
open Go.RowKit
set_option linter.unusedVariables false

theorem Off.reads {B : Nat} {w : World} {v : Value} {l : List Int} (h : Off B w v l) : ∃ A cap, v = .slice A l.length cap ∧ l.length ≤ cap ∧ cap ≤ 9223372036854775807 ∧
    (0 < l.length → ∃ g off, A = some ⟨g, off, none⟩ ∧ g < w.heap.size ∧ ∀ i, i < l.length → w.cell? ⟨g, off + i, none⟩ = some (.int .i64 (gi l i))) := by
  rcases h with ⟨rfl, rfl⟩ | ⟨g, off, cap, cur, rfl, hb, hg, hlc, hcm, hoc, hcs⟩
  · exact ⟨none, 0, rfl, Nat.le_refl _, by omega, fun h => absurd h (by simp)⟩
  · exact ⟨_, cap, rfl, hlc, hcm, fun _ => ⟨g, off, rfl, lt_of_block hg, fun i hi => (cell_of_row w g _ _ _ _ hg).trans (hcs i hi)⟩⟩

theorem has_off (l : List Int) (B : Nat) (v : Value) (x : Int) (w : World) (h : Off B w v l) :
    Calls Try.prog 6 #[v, .int .i64 x] w fun e w' => e = .returned (.bool (decide (x ∈ l))) ∧ Below w.heap.size w w' := by
  obtain ⟨A, cap, rfl, hlc, hcm, hA⟩ := h.reads
  go_enter Try.func6, Try.ntmps6
  go_wp2_with fail
  go_loop [9] (fun i => ∃ k : Nat, i = .int .i64 k ∧ k ≤ l.length ∧ Hid (∀ j, j < k → (gi l j == x) = false)) (fun i => l.length - (intOf i).toNat)
  case atStart => exact ⟨0, rfl, Nat.zero_le _, fun j hj => absurd hj (by omega)⟩
  case round =>
    obtain ⟨k, rfl, hk, hno⟩ := hrel
    by_cases hlt : k < l.length
    · obtain ⟨g, off, rfl, hg, hc⟩ := hA (by omega)
      have c0 := hc k hlt
      clear hc h hA
      by_cases he : (gi l k == x) = true
      · have HM : Hid (decide (x ∈ l) = true) := by
          have e : gi l k = x := by simpa using he
          exact decide_eq_true (e ▸ gi_mem l k hlt)
        go_wp2_with fail
        go_ret
        exact ⟨ret_bool HM.out.symm, Below.refl _ _⟩
      · have he1 : (gi l k == x) = false := by simpa using he
        have HE := hid_mk he1
        clear he
        go_wp2_with fail
        exact ⟨⟨k + 1, by go_num, by omega, hid_succ hno HE.out⟩, by simp [intOf]; omega⟩
    · obtain rfl : k = l.length := by omega
      have HM : Hid (decide (x ∈ l) = false) := by
        have h1 := pos_miss l x hno.out
        have h2 : x ∉ l := fun h3 => by have := (pos_lt l x).2 h3; omega
        exact decide_eq_false h2
      go_wp2_with fail
      go_ret
      exact ⟨ret_bool HM.out.symm, Below.refl _ _⟩

theorem without_off (l : List Int) (B : Nat) (v : Value) (x : Int) (w : World) (h : Off B w v l) (hl : l.length < 1000000000000) :
    Calls Try.prog 8 #[v, .int .i64 x] w fun e w' => ∃ v', e = .returned v' ∧ Ids w.heap.size w' v' (but l x) ∧ Below w.heap.size w w' := by
  obtain ⟨A, cap, rfl, hlc, hcm, hA⟩ := h.reads
  go_enter Try.func8, Try.ntmps8
  go_wp2_with fail
  go_loopw [5, 10] (fun o i wr => ∃ k : Nat, i = .int .i64 k ∧ k ≤ l.length ∧ Ids w.heap.size wr o (but (l.take k) x) ∧ Below w.heap.size w wr) (fun _ i _ => l.length - (intOf i).toNat)
  case atStart => exact ⟨0, rfl, Nat.zero_le _, show World.ownsRow _ _ _ _ _ 0 [] from World.ownsRow_nil _ _ _ _, Below.refl _ _⟩
  case round =>
    obtain ⟨k, rfl, hk, hown, hb⟩ := hrel
    have hbl := but_take_length l x k
    by_cases hlt : k < l.length
    · obtain ⟨g, off, rfl, hg, hc⟩ := hA (by omega)
      have c0 := (hb.cell (p := ⟨g, off + k, none⟩) hg).trans (hc k hlt)
      have HBT := hid_mk (but_take l x k hlt)
      have hsz := hb.size
      clear hc h hA
      obtain ⟨U, hU⟩ : ∃ U, U = but (l.take k) x := ⟨_, rfl⟩
      rw [← hU] at hown hbl HBT
      clear hU
      by_cases he : (gi l k == x) = true
      · have HB2 : Hid (but (l.take (k + 1)) x = U) := by rw [HBT.out, if_pos he]; exact List.append_nil _
        have hne : (gi l k != x) = false := by simp [bne, he]
        go_wp2_with fail
        exact ⟨⟨k + 1, by go_num, by omega, by rw [HB2.out]; exact hown, hb⟩, by simp [intOf]; omega⟩
      · have he1 : (gi l k == x) = false := by simpa using he
        have HB2 : Hid (but (l.take (k + 1)) x = U ++ [gi l k]) := by rw [HBT.out, if_neg he]; exact rfl
        clear he
        go_wp2_with (at_builtin; refine app_own _ rfl (.tmp 17) (.tmp 19) 26 2 (.int .i64 0) 1 8 rfl Try.underlying26 info2 rfl (by decide) w.heap.size _ U.length (ints U) _ rfl _ rfl (by simp) rfl ?_ hown (by omega) (by omega) (by omega) ?_)
        · exact rfl
        · intro v' w1 hown' honly
          have R : Ids w.heap.size w1 v' (but (l.take (k + 1)) x) := by
            rw [HB2.out]
            unfold Ids
            rw [ints_append, List.length_append]
            exact hown'
          have hB1 := hb.trans (honly.below hsz)
          clear hown' honly hown
          go_wp2_with fail
          exact ⟨⟨k + 1, by go_num, by omega, R, hB1⟩, by simp [intOf]; omega⟩
    · obtain rfl : k = l.length := by omega
      rw [List.take_length] at hown
      go_wp2_with fail
      go_ret
      exact ⟨_, rfl, hown, hb⟩

theorem same_off (a : List Int) (B1 B2 : Nat) (v1 v2 : Value) (w : World) (h1 : Ids B1 w v1 a) (h2 : Off B2 w v2 a) :
    Calls Try.prog 9 #[v1, v2] w fun e w' => e = .returned (.bool true) ∧ Below w.heap.size w w' := by
  obtain ⟨A1, c1, rfl, hm, hcm1, hA1, hc1⟩ := h1.cells
  obtain ⟨A2, c2, rfl, _, _, hA2⟩ := h2.reads
  have hne : ((a.length : Int) == (a.length : Int)) = true := by simp
  have hne2 : ((a.length : Int) != (a.length : Int)) = false := by simp
  go_enter Try.func9, Try.ntmps9
  go_wp2_with fail
  go_loopw [13] (fun i wr => ∃ k : Nat, i = .int .i64 k ∧ k ≤ a.length ∧ Below w.heap.size w wr) (fun i _ => a.length - (intOf i).toNat)
  case atStart => exact ⟨0, rfl, Nat.zero_le _, Below.refl _ _⟩
  case round =>
    obtain ⟨k, rfl, hk, hb⟩ := hrel
    by_cases hlt : k < a.length
    · obtain ⟨g1, rfl, hg1, _⟩ := hA1 (by omega)
      obtain ⟨g2, off, rfl, hg2, hc2⟩ := hA2 (by omega)
      obtain ⟨x, hx⟩ : ∃ x, x = gi a k := ⟨_, rfl⟩
      have d1 := (hb.cell (p := ⟨g1, k, none⟩) hg1).trans (hc1 k hlt g1 rfl)
      have d2 := (hb.cell (p := ⟨g2, off + k, none⟩) hg2).trans (hc2 k hlt)
      rw [← hx] at d1 d2
      have q1 : (x == x) = true := by simp
      have q2 : (x != x) = false := by simp
      clear hc1 hc2 hA1 hA2 h1 h2 hx
      go_wp2_with fail
      go_quiet (fail)
      go_wp2_with fail
      exact ⟨⟨k + 1, by go_num, by omega, pw_below hb⟩, by simp [intOf]; omega⟩
    · go_wp2_with fail
      go_ret
      exact ⟨rfl, hb⟩

end Go.Proofs.Ytehcliogjnpehab
