/- The walk over TurnWaits. -/
import Derived.Test.YtjbjkkicfdaljaaTurnD
namespace Go.Proofs.Ytjbjkkicfdaljaa
open Go.RowKit
set_option linter.unusedVariables false

theorem waits_pick0 : ∀ k : Nat, k < 16 → pickL [⟨1, true, 0⟩, ⟨2, true, (k : Int)⟩] 0 = [⟨1, true, 0⟩, ⟨2, true, (k : Int) + 1⟩] ∧ (ith [⟨1, true, 0⟩, ⟨2, true, (k : Int)⟩] (pickK [⟨1, true, 0⟩, ⟨2, true, (k : Int)⟩] 0)).id = 1 := by decide
theorem waits_len (a : Int) : 0 < (plc [⟨1, true, 0⟩, ⟨2, true, a⟩]).length := by show 0 < 2; decide
theorem waits_ages (k : Nat) : AgesLe [⟨1, true, 0⟩, ⟨2, true, (k : Int)⟩] k := by
  intro i hi
  match i, hi with
  | 0, _ => show (0 : Int) ≤ 0 ∧ (0 : Int) ≤ k; omega
  | 1, _ => show (0 : Int) ≤ k ∧ (k : Int) ≤ k; omega

theorem waits_walk (A : Option Addr) (n cap : Nat) (zs : List Int) (again : Bool) (w : World) (hin : InInts .i64 w A n cap zs) :
    Calls Try.prog 5 #[.slice A n cap, .bool again] w fun e w' => e = .returned (.bool true) ∧ Below w.heap.size w w' := by
  obtain ⟨m, hmn, hm60, _, hmin⟩ := min_fact Try.prog n 60 (by omega)
  have a1 : ∀ B p w, Tab B w p [] → Calls Try.prog 11 #[.pointer (some ⟨p, 0, none⟩), .int .i64 1, .bool true] w fun e w' => e = .returned (.bool true) ∧ Tab B w' p [⟨1, true, 0⟩] ∧ Only [50, 53] B w w' :=
    fun B p w h => add_any [] B p 1 true w h (by decide)
  have a2 : ∀ B p w, Tab B w p [⟨1, true, 0⟩] → Calls Try.prog 11 #[.pointer (some ⟨p, 0, none⟩), .int .i64 2, .bool false] w fun e w' => e = .returned (.bool true) ∧ Tab B w' p [⟨1, true, 0⟩, ⟨2, false, 0⟩] ∧ Only [50, 53] B w w' :=
    fun B p w h => add_any [⟨1, true, 0⟩] B p 2 false w h (by decide)
  have p1 : ∀ B p w, Tab B w p [⟨1, true, 0⟩, ⟨2, false, 0⟩] → Calls Try.prog 12 #[.pointer (some ⟨p, 0, none⟩), .int .i64 1] w fun e w' => e = .returned (.tuple #[.int .i64 1, .bool true]) ∧ Tab B w' p [⟨1, true, 0⟩, ⟨2, false, 0⟩] ∧ Only [50, 53] B w w' :=
    fun B p w h => pick_some [⟨1, true, 0⟩, ⟨2, false, 0⟩] B p 1 1 w h (by decide) (by decide) (by decide) (by unfold AgesLe; decide)
  have s1 : ∀ B p w, Tab B w p [⟨1, true, 0⟩, ⟨2, false, 0⟩] → Calls Try.prog 13 #[.pointer (some ⟨p, 0, none⟩), .int .i64 2, .bool true] w fun e w' => e = .returned (.bool true) ∧ Tab B w' p [⟨1, true, 0⟩, ⟨2, true, ((0 : Nat) : Int)⟩] ∧ Only [50, 53] B w w' :=
    fun B p w h => set_any [⟨1, true, 0⟩, ⟨2, false, 0⟩] B p 2 true w h (by decide)
  have p2 : ∀ (k : Nat), k < 16 → ∀ B p w, Tab B w p [⟨1, true, 0⟩, ⟨2, true, (k : Int)⟩] → Calls Try.prog 12 #[.pointer (some ⟨p, 0, none⟩), .int .i64 0] w fun e w' => e = .returned (.tuple #[.int .i64 1, .bool true]) ∧ Tab B w' p [⟨1, true, 0⟩, ⟨2, true, ((k + 1 : Nat) : Int)⟩] ∧ Only [50, 53] B w w' := by
    intro k hk B p w h
    have hc := pick_some [⟨1, true, 0⟩, ⟨2, true, (k : Int)⟩] B p 0 k w h (by show 2 < _; decide) (waits_len _) (by omega) (waits_ages k)
    rw [(waits_pick0 k hk).1, (waits_pick0 k hk).2] at hc
    exact hc
  have s2 : ∀ B p w, Tab B w p [⟨1, true, 0⟩, ⟨2, true, ((15 : Nat) : Int)⟩] → Calls Try.prog 13 #[.pointer (some ⟨p, 0, none⟩), .int .i64 2, .bool true] w fun e w' => e = .returned (.bool true) ∧ Tab B w' p [⟨1, true, 0⟩, ⟨2, true, ((15 : Nat) : Int)⟩] ∧ Only [50, 53] B w w' :=
    fun B p w h => set_any [⟨1, true, 0⟩, ⟨2, true, ((15 : Nat) : Int)⟩] B p 2 true w h (by decide)
  have s3 : ∀ B p w, Tab B w p [⟨1, true, 0⟩, ⟨2, true, ((15 : Nat) : Int)⟩] → Calls Try.prog 13 #[.pointer (some ⟨p, 0, none⟩), .int .i64 1, .bool true] w fun e w' => e = .returned (.bool true) ∧ Tab B w' p [⟨1, true, 0⟩, ⟨2, true, ((15 : Nat) : Int)⟩] ∧ Only [50, 53] B w w' :=
    fun B p w h => set_any [⟨1, true, 0⟩, ⟨2, true, ((15 : Nat) : Int)⟩] B p 1 true w h (by decide)
  have p3 : ∀ B p w, Tab B w p [⟨1, true, 0⟩, ⟨2, true, ((16 : Nat) : Int)⟩] → Calls Try.prog 12 #[.pointer (some ⟨p, 0, none⟩), .int .i64 0] w fun e w' => e = .returned (.tuple #[.int .i64 2, .bool true]) ∧ Tab B w' p [⟨1, true, 1⟩, ⟨2, true, 0⟩] ∧ Only [50, 53] B w w' :=
    fun B p w h => pick_some [⟨1, true, 0⟩, ⟨2, true, ((16 : Nat) : Int)⟩] B p 0 16 w h (by decide) (by decide) (by decide) (by unfold AgesLe; decide)
  have A1 := hid_mk a1; have A2 := hid_mk a2; have P1 := hid_mk p1; have S1 := hid_mk s1; have P2 := hid_mk p2; have S2 := hid_mk s2; have S3 := hid_mk s3; have P3 := hid_mk p3
  clear a1 a2 p1 s1 p2 s2 s3 p3
  go_enter Try.func5, Try.ntmps5
  go_wp2_with fail
  refine (awake_any _).mono ?_
  rintro e w1 ⟨rfl, b1⟩
  go_wp2_with fail
  refine (new_any _).mono ?_
  rintro e w2 ⟨rfl, h2, b2⟩
  go_wp2_with fail
  refine (A1.out _ _ _ h2).mono ?_
  rintro e w3 ⟨rfl, h3, o3⟩
  go_wp2_with fail
  refine (A2.out _ _ _ h3).mono ?_
  rintro e w4 ⟨rfl, h4, o4⟩
  have B4 := b2.trans ((o3.trans o4).below b2.size)
  go_wp2_with fail
  clear hmin
  go_loopw [27] (fun i wr => ∃ k : Nat, i = .int .i64 k ∧ k ≤ m ∧ Tab w1.heap.size wr w1.heap.size [⟨1, true, 0⟩, ⟨2, false, 0⟩] ∧ Below w1.heap.size w1 wr) (fun i _ => m - (intOf i).toNat)
  case atStart => exact ⟨0, rfl, Nat.zero_le _, h4, B4⟩
  case round =>
    clear h2 h3 h4 o3 o4 B4
    obtain ⟨k, rfl, hk, ht, hb⟩ := hrel
    by_cases hlt : k < m
    · go_wp2_with fail
      refine (P1.out _ _ _ ht).mono ?_
      rintro e w5 ⟨rfl, h5, o5⟩
      go_wp2_with fail
      exact ⟨⟨k + 1, by go_num, by omega, h5, hb.trans (o5.below hb.size)⟩, by simp [intOf]; omega⟩
    · go_wp2_with fail
      refine (S1.out _ _ _ ht).mono ?_
      rintro e w5 ⟨rfl, h5, o5⟩
      have hb5 := hb.trans (o5.below hb.size)
      clear ht hb o5
      go_wp2_with fail
      go_loopw [43] (fun i wr => ∃ k : Nat, i = .int .i64 k ∧ k ≤ 15 ∧ Tab w1.heap.size wr w1.heap.size [⟨1, true, 0⟩, ⟨2, true, (k : Int)⟩] ∧ Below w1.heap.size w1 wr) (fun i _ => 15 - (intOf i).toNat)
      case atStart => exact ⟨0, rfl, by omega, h5, hb5⟩
      case round =>
        clear h5 hb5
        obtain ⟨j, rfl, hj, ht, hb⟩ := hrel
        by_cases hlt2 : j < 15
        · go_wp2_with fail
          refine (P2.out j (by omega) _ _ _ ht).mono ?_
          rintro e w6 ⟨rfl, h6, o6⟩
          go_wp2_with fail
          exact ⟨⟨j + 1, by go_num, by omega, h6, hb.trans (o6.below hb.size)⟩, by simp [intOf]; omega⟩
        · obtain rfl : j = 15 := by omega
          cases again
          · go_wp2_with fail
            refine (P2.out 15 (by omega) _ _ _ ht).mono ?_
            rintro e w6 ⟨rfl, h6, o6⟩
            go_wp2_with fail
            refine (P3.out _ _ _ h6).mono ?_
            rintro e w7 ⟨rfl, h7, o7⟩
            go_wp2_with fail
            go_ret
            exact ⟨rfl, bthen b1 (hb.trans ((o6.trans o7).below hb.size))⟩
          · go_wp2_with fail
            refine (S2.out _ _ _ ht).mono ?_
            rintro e w5 ⟨rfl, h5, o5⟩
            go_wp2_with fail
            refine (S3.out _ _ _ h5).mono ?_
            rintro e w5' ⟨rfl, h5', o5'⟩
            go_wp2_with fail
            refine (P2.out 15 (by omega) _ _ _ h5').mono ?_
            rintro e w6 ⟨rfl, h6, o6⟩
            go_wp2_with fail
            refine (P3.out _ _ _ h6).mono ?_
            rintro e w7 ⟨rfl, h7, o7⟩
            go_wp2_with fail
            go_ret
            exact ⟨rfl, bthen b1 (hb.trans ((((o5.trans o5').trans o6).trans o7).below hb.size))⟩

theorem waits_law (A : Option Addr) (n cap : Nat) (zs : List Int) (again : Bool) (w : World) (hin : InInts .i64 w A n cap zs) :
    Calls Try.prog 5 #[.slice A n cap, .bool again] w fun e w' => e = .returned (.bool true) ∧ Below w.heap.size w w' :=
  waits_walk A n cap zs again w hin

end Go.Proofs.Ytjbjkkicfdaljaa
