/- Entries held against one another, and found in a row of them. -/
import Derived.Test.YtaoamkkgiiiejaaRw
import Derived.Test.YtaoamkkgiiiejaaTreePure
import Derived.Deep.RegionHeld3
import Derived.Deep.DrawnRows
import Derived.Laws.Externs
namespace Go.Proofs.Ytaoamkkgiiiejaa
open Go.RowKit
set_option linter.unusedVariables false
attribute [local go_sem ↓] Go.wp_at_zero Go.wp_at_succ

theorem bcell {W w1 : World} (hb : Below W.heap.size W w1) : (∀ b o, b < W.heap.size → w1.cell? ⟨b, o, none⟩ = W.cell? ⟨b, o, none⟩) ∧ (∀ b o, b < W.heap.size → w1.frozen? ⟨b, o, none⟩ = W.frozen? ⟨b, o, none⟩) :=
  ⟨fun b o h => hb.cell (p := ⟨b, o, none⟩) h, fun b o h => hb.frozen (p := ⟨b, o, none⟩) h⟩

theorem cmpstr_in (a b : ByteArray) (w : World) :
    Calls Try.prog 55 #[.string a, .string b] w fun e w' => e = .returned (.int .i64 (cb a.data.toList b.data.toList)) ∧ w = w' := by
  have hov : (callFunc 60 #[.string a, .string b]).run Try.prog w = .ok (.value (.int .i64 (cb a.data.toList b.data.toList))) w := by
    rw [run_callFunc_extern Try.func60 (by kernel_rfl) (by kernel_rfl) (by kernel_rfl) (e := Extern.BytealgCompare.compare) (by kernel_rfl), Lib.run_compareString]
    rfl
  go_enter Try.func55, Try.ntmps55
  go_wp2_with (simp only [hov])
  go_ret
  exact ⟨rfl, rfl⟩

theorem strcmp_any (a b : ByteArray) (w : World) :
    Calls Try.prog 48 #[.string a, .string b] w fun e w' => e = .returned (.int .i64 (cb a.data.toList b.data.toList)) ∧ w = w' := by
  go_enter Try.func48, Try.ntmps48
  go_wp2_with (go_at_call 55; refine (cmpstr_in _ _ _).mono ?_; rintro e w' ⟨rfl, rfl⟩)
  go_ret
  exact ⟨rfl, rfl⟩

theorem isnan_any (x : Int) (w : World) : Calls Try.prog 56 #[.int .i64 x] w fun e w' => e = .returned (.bool false) ∧ w = w' := by
  have q : (x != x) = false := by simp
  go_enter Try.func56, Try.ntmps56
  go_wp2_with fail
  go_ret
  exact ⟨by simp, rfl⟩

theorem cmpint_any (x y : Int) (w : World) : Calls Try.prog 49 #[.int .i64 x, .int .i64 y] w fun e w' => e = .returned (.int .i64 (sgn x y)) ∧ w = w' := by
  by_cases h1 : x < y
  · have hs : Hid (sgn x y = -1) := if_pos h1
    go_enter Try.func49, Try.ntmps49
    go_wp2_with (go_at_call 56; refine (isnan_any _ _).mono ?_; rintro e w' ⟨rfl, rfl⟩)
    go_ret
    exact ⟨ret_int hs.out.symm, rfl⟩
  · by_cases h2 : y < x
    · have hs : Hid (sgn x y = 1) := (if_neg h1).trans (if_pos h2)
      go_enter Try.func49, Try.ntmps49
      go_wp2_with (go_at_call 56; refine (isnan_any _ _).mono ?_; rintro e w' ⟨rfl, rfl⟩)
      go_ret
      exact ⟨ret_int hs.out.symm, rfl⟩
    · have hs : Hid (sgn x y = 0) := (if_neg h1).trans (if_neg h2)
      go_enter Try.func49, Try.ntmps49
      go_wp2_with (go_at_call 56; refine (isnan_any _ _).mono ?_; rintro e w' ⟨rfl, rfl⟩)
      go_ret
      exact ⟨ret_int hs.out.symm, rfl⟩

def orI (x y : Int) : Int := if x = 0 then y else x
theorem orI_ne {x y : Int} (h : ¬ x = 0) : orI x y = x := if_neg h
theorem orI_zero {x y : Int} (h : x = 0) : orI x y = y := if_pos h
theorem cmpE_or (a b : E) : cmpE a b = orI (cb a.key.data.toList b.key.data.toList) (sgn a.id b.id) := rfl

theorem cmpor_any (x y : Int) (b : Nat) (w : World) (h0 : w.cell? ⟨b, 0, none⟩ = some (.int .i64 x)) (h1 : w.cell? ⟨b, 1, none⟩ = some (.int .i64 y)) :
    Calls Try.prog 47 #[.slice (some ⟨b, 0, none⟩) 2 2] w fun e w' => e = .returned (.int .i64 (orI x y)) ∧ w = w' := by
  go_enter Try.func47, Try.ntmps47
  go_wp2_with fail
  go_loop [8] (fun i => ∃ k : Nat, i = .int .i64 k ∧ k ≤ 2 ∧ Hid (0 < k → x = 0) ∧ Hid (1 < k → y = 0)) (fun i => 2 - (intOf i).toNat)
  case atStart => exact ⟨0, rfl, by omega, fun h => by omega, fun h => by omega⟩
  case round =>
    obtain ⟨k, rfl, hk, H1, H2⟩ := hrel
    have hk3 : k = 0 ∨ k = 1 ∨ k = 2 := by omega
    rcases hk3 with rfl | rfl | rfl
    · by_cases hx : x = 0
      · have q : (x != 0) = false := by simp [hx]
        have HX := hid_mk hx
        clear hx
        go_wp2_with fail
        exact ⟨⟨1, by go_num, by omega, fun _ => HX.out, fun h => by omega⟩, by simp [intOf]⟩
      · have q : (x != 0) = true := by simpa using hx
        go_wp2_with fail
        go_ret
        exact ⟨ret_int (orI_ne hx).symm, rfl⟩
    · by_cases hy : y = 0
      · have q : (y != 0) = false := by simp [hy]
        have HY := hid_mk hy
        clear hy
        go_wp2_with fail
        exact ⟨⟨2, by go_num, by omega, fun _ => H1.out (by omega), fun h => HY.out⟩, by simp [intOf]⟩
      · have q : (y != 0) = true := by simpa using hy
        go_wp2_with fail
        go_ret
        exact ⟨ret_int (orI_zero (H1.out (by omega))).symm, rfl⟩
    · go_wp2_with fail
      go_ret
      exact ⟨ret_int (by rw [orI_zero (H1.out (by omega)), H2.out (by omega)]), rfl⟩

theorem order_any (a b : E) (w : World) :
    Calls Try.prog 36 #[.agg #[.string a.key, .int .i64 a.id], .agg #[.string b.key, .int .i64 b.id]] w fun e w' => e = .returned (.int .i64 (cmpE a b)) ∧ Below w.heap.size w w' := by
  have HE := hid_mk (cmpE_or a b)
  go_enter Try.func36, Try.ntmps36
  go_wp2_with fail
  go_region_held3 (fun w' => w'.cell? ⟨w.heap.size, 0, none⟩ = some (.string a.key) ∧ w'.cell? ⟨w.heap.size, 1, none⟩ = some (.int .i64 a.id) ∧ w'.cell? ⟨w.heap.size + 1, 0, none⟩ = some (.string b.key) ∧ w'.cell? ⟨w.heap.size + 1, 1, none⟩ = some (.int .i64 b.id)) (go_keep)
    ((first | (go_at_call 48; refine (strcmp_any _ _ _).mono ?_; rintro e w' ⟨rfl, rfl⟩) | (go_at_call 49; refine (cmpint_any _ _ _).mono ?_; rintro e w' ⟨rfl, rfl⟩) | (go_at_call 47; refine (cmpor_any (cb a.key.data.toList b.key.data.toList) (sgn a.id b.id) _ _ (by go_simp) (by go_simp)).mono ?_; rintro e w' ⟨rfl, rfl⟩)))
  go_wp2_with fail
  go_ret
  refine ⟨ret_int HE.out.symm, ?_⟩
  exact pw_below (n := 1) ((((Below.refl _ w).alloc (Nat.le_refl _) _).alloc (by simp) _).alloc (by simp; omega) _)

end Go.Proofs.Ytaoamkkgiiiejaa
