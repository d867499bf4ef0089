/- The walks over package gate: looking, copying, asking. -/
import Derived.Test.YtehcliogjnpehabMv
import Derived.Test.YtehcliogjnpehabGatePure
namespace Go.Proofs.Ytehcliogjnpehab
open Go.RowKit
set_option linter.unusedVariables false

theorem info2 : (Try.prog.info? 2).map (fun i => (i.zero, i.size, i.bytes)) = some (some (.int .i64 0), 1, 8) := by kernel_rfl
theorem zero2 : ∀ w, (zeroValue 2).run Try.prog w = .ok (.int .i64 0) w := fun w => by kernel_rfl

/-- A row of numbers (of type int64). -/
def Ids (B : Nat) (w : World) (v : Value) (l : List Int) : Prop := w.ownsRow B 2 1 v l.length (ints l)
theorem Ids.cells {B : Nat} {w : World} {v : Value} {l : List Int} (h : Ids B w v l) : ∃ A cap, v = .slice A l.length cap ∧ l.length ≤ cap ∧ cap ≤ 9223372036854775807 ∧ (0 < l.length → ∃ g, A = some ⟨g, 0, none⟩ ∧ g < w.heap.size ∧ B ≤ g) ∧
    ∀ i, i < l.length → ∀ g, A = some ⟨g, 0, none⟩ → w.cell? ⟨g, i, none⟩ = some (.int .i64 (gi l i)) := by
  obtain ⟨A, cap, rfl, h1, h2, h3⟩ := ownsRow_shape h
  refine ⟨A, cap, rfl, h1, by simp only [maxLen] at h2; omega, fun h0 => ?_, fun i hi g hg => ?_⟩
  · obtain ⟨g, rfl, hb, ⟨cs, fr, hh⟩, _⟩ := h3 h0
    exact ⟨g, rfl, lt_of_block hh, hb⟩
  · obtain ⟨g', rfl, hb, _, hc⟩ := h3 (by omega)
    have e : g' = g := by simpa using hg
    subst e
    exact hc _ _ (ints_get l i hi)
theorem Ids.nil (B : Nat) (w : World) : Ids B w (.slice none 0 0) [] := World.ownsRow_nil _ _ _ _

theorem clone_any (l : List Int) (B : Nat) (v : Value) (w : World) (h : Ids B w v l) (hl : l.length < 1000000000000) :
    Calls Try.prog 16 #[v] w fun e w' => ∃ v', e = .returned v' ∧ Ids w.heap.size w' v' l ∧ Below w.heap.size w w' := by
  obtain ⟨A, cap, rfl, _, _, hA⟩ := ownsRow_shape h
  rcases A with _ | A
  · have hz : l = [] := by
      rcases l with _ | ⟨x, l⟩
      · rfl
      · obtain ⟨g, e, _⟩ := hA (by simp)
        simp at e
    subst hz
    have hq : ∀ W, (binOp .eql 26 (.slice none 0 cap) (.slice none 0 0)).run Try.prog W = .ok (.bool true) W := fun W => by kernel_rfl
    go_enter Try.func16, Try.ntmps16
    go_wp2_with fail
    go_ret
    exact ⟨_, rfl, Ids.nil _ _, Below.refl _ _⟩
  · have hq : ∀ W, (binOp .eql 26 (.slice (some A) l.length cap) (.slice none 0 0)).run Try.prog W = .ok (.bool false) W := fun W => by kernel_rfl
    go_enter Try.func16, Try.ntmps16
    have he := World.ownsRow_lit (base := w.heap.size) (e := 2) (size := 1) w #[] 0 (Nat.le_refl _) (Nat.zero_le _) rfl
    go_wp2_with (at_builtin; refine wpList_app_row _ rfl (.tmp 5) (.tmp 6) 26 2 (.int .i64 0) 1 8 rfl Try.underlying26 info2 rfl (by decide) w.heap.size _ 0 [] rfl he B _ l.length (ints l) rfl (World.ownsRow.alloc h _) (ints_cells l) (by simp) (by omega) (by omega) ?_)
    intro v2 w2 hown2 honly2
    go_wp2_with fail
    go_ret
    refine ⟨_, rfl, ?_, ((Only.refl [2] w.heap.size w).alloc _ |>.trans honly2).below (Nat.le_refl _)⟩
    exact hown2

theorem index_any (l : List Int) (B : Nat) (v : Value) (x : Int) (w : World) (h : Ids B w v l) :
    Calls Try.prog 18 #[v, .int .i64 x] w fun e w' => e = .returned (.int .i64 (posI l x)) ∧ Below w.heap.size w w' := by
  obtain ⟨A, cap, rfl, hlc, hcm, hA, hc⟩ := h.cells
  go_enter Try.func18, Try.ntmps18
  go_wp2_with fail
  go_loop [8] (fun i => ∃ k : Nat, i = .int .i64 k ∧ k ≤ l.length ∧ Hid (∀ j, j < k → (gi l j == x) = false)) (fun i => l.length - (intOf i).toNat)
  case atStart => exact ⟨0, rfl, Nat.zero_le _, fun j hj => absurd hj (by omega)⟩
  case round =>
    obtain ⟨k, rfl, hk, hno⟩ := hrel
    by_cases hlt : k < l.length
    · obtain ⟨g, rfl, hg, hBg⟩ := hA (by omega)
      have c0 := hc k hlt g rfl
      clear hc h hA
      by_cases he : (gi l k == x) = true
      · have he2 : (x == gi l k) = true := by
          have e : gi l k = x := by simpa using he
          rw [e]; simp
        have HE := hid_mk he
        clear he
        go_wp2_with fail
        go_ret
        exact ⟨ret_int (posI_hit l x k hlt hno.out HE.out).symm, Below.refl _ _⟩
      · have he1 : (gi l k == x) = false := by simpa using he
        have he2 : (x == gi l k) = false := by
          have : gi l k ≠ x := by simpa using he
          exact beq_eq_false_iff_ne.2 (Ne.symm this)
        have HE := hid_mk he1
        clear he he1
        go_wp2_with fail
        exact ⟨⟨k + 1, by go_num, by omega, hid_succ hno HE.out⟩, by simp [intOf]; omega⟩
    · obtain rfl : k = l.length := by omega
      go_wp2_with fail
      go_ret
      exact ⟨ret_int (posI_miss l x hno.out).symm, Below.refl _ _⟩

theorem contains_any (l : List Int) (B : Nat) (v : Value) (x : Int) (w : World) (h : Ids B w v l) :
    Calls Try.prog 13 #[v, .int .i64 x] w fun e w' => e = .returned (.bool (decide (x ∈ l))) ∧ Below w.heap.size w w' := by
  have HP := hid_mk (posI_ge l x)
  obtain ⟨A, cap, rfl, _, _, _⟩ := ownsRow_shape h
  go_enter Try.func13, Try.ntmps13
  go_wp2_with fail
  refine (index_any l B _ x _ h).mono ?_
  rintro e w1 ⟨rfl, b1⟩
  go_wp2_with fail
  go_ret
  exact ⟨ret_bool HP.out, b1⟩

theorem has_any (l : List Int) (B : Nat) (v : Value) (x : Int) (w : World) (h : Ids B w v l) :
    Calls Try.prog 6 #[v, .int .i64 x] w fun e w' => e = .returned (.bool (decide (x ∈ l))) ∧ Below w.heap.size w w' := by
  obtain ⟨A, cap, rfl, hlc, hcm, hA, hc⟩ := h.cells
  go_enter Try.func6, Try.ntmps6
  go_wp2_with fail
  go_loop [9] (fun i => ∃ k : Nat, i = .int .i64 k ∧ k ≤ l.length ∧ Hid (∀ j, j < k → (gi l j == x) = false)) (fun i => l.length - (intOf i).toNat)
  case atStart => exact ⟨0, rfl, Nat.zero_le _, fun j hj => absurd hj (by omega)⟩
  case round =>
    obtain ⟨k, rfl, hk, hno⟩ := hrel
    by_cases hlt : k < l.length
    · obtain ⟨g, rfl, hg, hBg⟩ := hA (by omega)
      have c0 := hc k hlt g rfl
      clear hc h hA
      by_cases he : (gi l k == x) = true
      · have HM : Hid (decide (x ∈ l) = true) := by
          have e : gi l k = x := by simpa using he
          exact decide_eq_true (e ▸ gi_mem l k hlt)
        go_wp2_with fail
        go_ret
        exact ⟨ret_bool HM.out.symm, Below.refl _ _⟩
      · have he1 : (gi l k == x) = false := by simpa using he
        have HE := hid_mk he1
        clear he
        go_wp2_with fail
        exact ⟨⟨k + 1, by go_num, by omega, hid_succ hno HE.out⟩, by simp [intOf]; omega⟩
    · obtain rfl : k = l.length := by omega
      have HM : Hid (decide (x ∈ l) = false) := by
        have h1 := pos_miss l x hno.out
        have h2 : x ∉ l := fun h3 => by have := (pos_lt l x).2 h3; omega
        exact decide_eq_false h2
      go_wp2_with fail
      go_ret
      exact ⟨ret_bool HM.out.symm, Below.refl _ _⟩

end Go.Proofs.Ytehcliogjnpehab
