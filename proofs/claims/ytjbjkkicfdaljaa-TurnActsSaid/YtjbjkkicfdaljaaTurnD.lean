/- Layer 23's laws: the document's examples hold; two rows of numbers compared. -/
import Derived.Test.YtjbjkkicfdaljaaTurnC
namespace Go.Proofs.Ytjbjkkicfdaljaa
open Go.RowKit
set_option linter.unusedVariables false

theorem awake_any (w : World) : Calls Try.prog 9 #[] w fun e w' => e = .returned (.bool true) ∧ Below w.heap.size w w' := by
  have a1 : ∀ B p w, Tab B w p [] → Calls Try.prog 11 #[.pointer (some ⟨p, 0, none⟩), .int .i64 1, .bool true] w fun e w' => e = .returned (.bool true) ∧ Tab B w' p [⟨1, true, 0⟩] ∧ Only [50, 53] B w w' :=
    fun B p w h => add_any [] B p 1 true w h (by decide)
  have a2 : ∀ B p w, Tab B w p [⟨1, true, 0⟩] → Calls Try.prog 11 #[.pointer (some ⟨p, 0, none⟩), .int .i64 2, .bool true] w fun e w' => e = .returned (.bool true) ∧ Tab B w' p [⟨1, true, 0⟩, ⟨2, true, 0⟩] ∧ Only [50, 53] B w w' :=
    fun B p w h => add_any [⟨1, true, 0⟩] B p 2 true w h (by decide)
  have a3 : ∀ B p w, Tab B w p [⟨1, true, 0⟩, ⟨2, true, 0⟩] → Calls Try.prog 11 #[.pointer (some ⟨p, 0, none⟩), .int .i64 3, .bool true] w fun e w' => e = .returned (.bool true) ∧ Tab B w' p [⟨1, true, 0⟩, ⟨2, true, 0⟩, ⟨3, true, 0⟩] ∧ Only [50, 53] B w w' :=
    fun B p w h => add_any [⟨1, true, 0⟩, ⟨2, true, 0⟩] B p 3 true w h (by decide)
  have p1 : ∀ B p w, Tab B w p [⟨1, true, 0⟩, ⟨2, true, 0⟩, ⟨3, true, 0⟩] → Calls Try.prog 12 #[.pointer (some ⟨p, 0, none⟩), .int .i64 4] w fun e w' => e = .returned (.tuple #[.int .i64 2, .bool true]) ∧ Tab B w' p [⟨1, true, 1⟩, ⟨2, true, 0⟩, ⟨3, true, 1⟩] ∧ Only [50, 53] B w w' :=
    fun B p w h => pick_some [⟨1, true, 0⟩, ⟨2, true, 0⟩, ⟨3, true, 0⟩] B p 4 1 w h (by decide) (by decide) (by decide) (by unfold AgesLe; decide)
  have p2 : ∀ B p w, Tab B w p [⟨1, true, 1⟩, ⟨2, true, 0⟩, ⟨3, true, 1⟩] → Calls Try.prog 12 #[.pointer (some ⟨p, 0, none⟩), .int .i64 (-1)] w fun e w' => e = .returned (.tuple #[.int .i64 3, .bool true]) ∧ Tab B w' p [⟨1, true, 2⟩, ⟨2, true, 1⟩, ⟨3, true, 0⟩] ∧ Only [50, 53] B w w' :=
    fun B p w h => pick_some [⟨1, true, 1⟩, ⟨2, true, 0⟩, ⟨3, true, 1⟩] B p (-1) 1 w h (by decide) (by decide) (by decide) (by unfold AgesLe; decide)
  have A1 := hid_mk a1; have A2 := hid_mk a2; have A3 := hid_mk a3; have P1 := hid_mk p1; have P2 := hid_mk p2
  clear a1 a2 a3 p1 p2
  go_enter Try.func9, Try.ntmps9
  go_wp2_with fail
  refine (new_any _).mono ?_
  rintro e w1 ⟨rfl, h1, b1⟩
  go_wp2_with fail
  refine (A1.out _ _ _ h1).mono ?_
  rintro e w2 ⟨rfl, h2, o2⟩
  go_wp2_with fail
  refine (A2.out _ _ _ h2).mono ?_
  rintro e w3 ⟨rfl, h3, o3⟩
  go_wp2_with fail
  refine (A3.out _ _ _ h3).mono ?_
  rintro e w4 ⟨rfl, h4, o4⟩
  go_wp2_with fail
  refine (P1.out _ _ _ h4).mono ?_
  rintro e w5 ⟨rfl, h5, o5⟩
  go_wp2_with fail
  refine (P2.out _ _ _ h5).mono ?_
  rintro e w6 ⟨rfl, h6, o6⟩
  go_wp2_with fail
  go_ret
  exact ⟨rfl, b1.trans (((((o2.trans o3).trans o4).trans o5).trans o6).below b1.size)⟩

/-- Two rows of numbers, as Same sees them. -/
def sameTo (a b : List Int) (k : Nat) : Prop := ∀ j, j < k → a.getD j 0 = b.getD j 0
theorem same_iff (a b : List Int) (h : a.length = b.length) (hs : sameTo a b a.length) : a = b := by
  refine List.ext_getElem h fun i h1 h2 => ?_
  have := hs i h1
  rwa [getD_get a 0 i h1, getD_get b 0 i h2] at this

theorem same_true (a : List Int) (B1 B2 : Nat) (v1 v2 : Value) (w : World) (h1 : Ids B1 w v1 a) (h2 : Ids B2 w v2 a) :
    Calls Try.prog 16 #[v1, v2] w fun e w' => e = .returned (.bool true) ∧ Below w.heap.size w w' := by
  obtain ⟨A1, c1, rfl, hm, hA1, hc1⟩ := h1.cells
  obtain ⟨A2, c2, rfl, _, hA2, hc2⟩ := h2.cells
  have hne : ((a.length : Int) == (a.length : Int)) = true := by simp
  have hne2 : ((a.length : Int) != (a.length : Int)) = false := by simp
  go_enter Try.func16, Try.ntmps16
  go_wp2_with fail
  go_loopw [13] (fun i wr => ∃ k : Nat, i = .int .i64 k ∧ k ≤ a.length ∧ Below w.heap.size w wr) (fun i _ => a.length - (intOf i).toNat)
  case atStart => exact ⟨0, rfl, Nat.zero_le _, Below.refl _ _⟩
  case round =>
    obtain ⟨k, rfl, hk, hb⟩ := hrel
    by_cases hlt : k < a.length
    · obtain ⟨g1, rfl, hg1, _⟩ := hA1 (by omega)
      obtain ⟨g2, rfl, hg2, _⟩ := hA2 (by omega)
      obtain ⟨x, hx⟩ : ∃ x, x = a.getD k 0 := ⟨_, rfl⟩
      have d1 := (hb.cell (p := ⟨g1, k, none⟩) hg1).trans (hc1 k hlt g1 rfl)
      have d2 := (hb.cell (p := ⟨g2, k, none⟩) hg2).trans (hc2 k hlt g2 rfl)
      rw [← hx] at d1 d2
      have q1 : (x == x) = true := by simp
      have q2 : (x != x) = false := by simp
      clear hc1 hc2 hA1 hA2 h1 h2 hx
      go_wp2_with fail
      go_quiet (fail)
      go_wp2_with fail
      exact ⟨⟨k + 1, by go_num, by omega, pw_below hb⟩, by simp [intOf]; omega⟩
    · go_wp2_with fail
      go_ret
      exact ⟨rfl, hb⟩

end Go.Proofs.Ytjbjkkicfdaljaa
