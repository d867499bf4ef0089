/- The walks over the laws SideAll, SideParts. -/
import Derived.Test.YtaoamkkgiiiejaaSideC
namespace Go.Proofs.Ytaoamkkgiiiejaa
open Go.RowKit
set_option linter.unusedVariables false
attribute [local go_sem ↓] Go.wp_at_zero Go.wp_at_succ

theorem InA8.below {w w' : World} {A : Option Addr} {n cap : Nat} {xs : List A8} (h : InA8 w A n cap xs) (hb : Below w.heap.size w w') : InA8 w' A n cap xs := by
  obtain ⟨h1, h2, h3, h4, h5⟩ := h
  refine ⟨h1, h2, h3, h4, fun h0 => ?_⟩
  obtain ⟨b, off, rfl, hlt, hc⟩ := h5 h0
  refine ⟨b, off, rfl, Nat.lt_of_lt_of_le hlt hb.size, fun i hi => ?_⟩
  obtain ⟨c0, c1, c2⟩ := hc i hi
  exact ⟨keep_cell hb c0, keep_cell hb c1, keep_cell hb c2⟩
theorem min_80 (n : Nat) (m : Nat) (hmn : m ≤ n) (hm : (m : Int) ≤ 80) (h : m = n ∨ (m : Int) = 80) : Nat.min n 80 = m := by
  rcases h with h | h
  · rw [h]; exact Nat.min_eq_left (by omega)
  · rw [show m = 80 by omega]; exact Nat.min_eq_right (by omega)

set_option maxHeartbeats 4000000 in
set_option maxRecDepth 100000 in
theorem sideall_walk (A : Option Addr) (n cap : Nat) (xs : List A8) (most : Int) (w : World) (hin : InA8 w A n cap xs) (hwf : (Lit.int .i64 most).wf = true) :
    Calls Try.prog 3 #[.slice A n cap, .int .i64 most] w fun r w' => r = .returned (.bool true) ∧ Below w.heap.size w w' := by
  have HIN := hid_mk hin
  obtain ⟨hxl, hnc, hcap, _, _⟩ := hin
  obtain ⟨k, hkn, hk80, hkk, hmin⟩ := min_fact Try.prog n 80 (by omega)
  obtain ⟨N, M, hN, hmax2, hmin2⟩ := maxmin_fact Try.prog most k
  have hD := dsOf_length xs k (by omega)
  have hNk : N ≤ k := by rw [hN]; exact Nat.min_le_right _ _
  have HM := hid_mk (min_80 n k hkn hk80 hkk)
  have HN := hid_mk hN
  have HD := hid_mk hD
  have hsub : (k : Int) - (N : Int) = ((k - N : Nat) : Int) := by omega
  clear hxl hkk hN hD
  go_enter Try.func3, Try.ntmps3
  go_wp2_with fail
  refine (sawake_any _).mono ?_
  rintro r w1 ⟨rfl, b1⟩
  have hs1 := b1.size
  have I1 := hid_mk (HIN.out.below b1)
  go_wp2_with fail
  refine (filled_any A n cap xs _ I1.out).mono ?_
  rintro r w2 ⟨p, q, F, rfl, P2, b2⟩
  rw [HM.out] at P2
  have HP2 := hid_mk P2
  have hb2 := bthen b1 b2
  clear P2 b1 b2
  go_wp2_with fail
  refine (drain_any w1.heap.size p q _ [] F most _ HP2.out (by have := HD.out; omega) (by simp)).mono ?_
  rintro r w3 ⟨rfl, F3, P3, m3⟩
  have hb3 := hb2.trans ((HP2.out.moved m3).mono hs1)
  rw [HD.out, ← HN.out] at P3 ⊢
  have HP3 := hid_mk P3
  have HL3 : Hid (((dsOf xs k).drop N).length = k - N) := hid_mk (by rw [List.length_drop, HD.out])
  clear P3 m3 HP2 hb2
  go_wp2_with fail
  refine (prlen_any w1.heap.size p q _ _ F3 _ HP3.out).mono ?_
  rintro r w4 ⟨rfl, rfl⟩
  rw [HL3.out]
  go_wp2_with fail
  go_ret
  exact ⟨rfl, hb3⟩

set_option maxHeartbeats 4000000 in
set_option maxRecDepth 100000 in
theorem sideparts_walk (A : Option Addr) (n cap : Nat) (xs : List A8) (a : Int) (w : World) (hin : InA8 w A n cap xs) (hwf : (Lit.int .u8 a).wf = true) :
    Calls Try.prog 6 #[.slice A n cap, .int .u8 a] w fun r w' => r = .returned (.bool true) ∧ Below w.heap.size w w' := by
  have HIN := hid_mk hin
  obtain ⟨hxl, hnc, hcap, _, _⟩ := hin
  obtain ⟨a0, a1⟩ := wf_u8 hwf
  obtain ⟨k, hk⟩ : ∃ k, k = Nat.min n 80 := ⟨_, rfl⟩
  have hk80 : k ≤ 80 := by rw [hk]; exact Nat.min_le_right _ _
  have hkn : k ≤ n := by rw [hk]; exact Nat.min_le_left _ _
  have HD := hid_mk (dsOf_length xs k (by omega))
  have HK := hid_mk hk
  clear hxl hwf hk
  go_enter Try.func6, Try.ntmps6
  go_wp2_with fail
  refine (sawake_any _).mono ?_
  rintro r w1 ⟨rfl, b1⟩
  have hs1 := b1.size
  have I1 := hid_mk (HIN.out.below b1)
  go_wp2_with fail
  refine (filled_any A n cap xs _ I1.out).mono ?_
  rintro r w2 ⟨p, q, F, rfl, P2, b2⟩
  rw [← HK.out] at P2
  have HP2 := hid_mk P2
  have I2 := hid_mk (I1.out.below b2)
  have hs2 := b2.size
  have hb2 := bthen b1 b2
  clear P2 b1 b2
  go_wp2_with fail
  refine (filled_any A n cap xs _ I2.out).mono ?_
  rintro r w3 ⟨p', q', F', rfl, P3, b3⟩
  rw [← HK.out] at P3
  have Q3 := hid_mk (P3.base hs2)
  have P3' := hid_mk (HP2.out.below b3)
  have HDJ : Hid (∀ j, F j → ¬ F' j) := hid_mk fun j hj hf => by have := (HP2.out.foot j hj).2; have := (P3.foot j hf).1; omega
  have hb3 := bthen hb2 (b3.mono (Nat.le_refl _))
  clear P3 b3 HP2 hb2 I2
  go_wp2_with fail
  have hq0 : 0 ≤ a % 90 := by omega
  have hq1 : a % 90 < 90 := by omega
  refine (drain_any w1.heap.size p q _ [] F _ _ P3'.out (by have := HD.out; omega) (by simp)).mono ?_
  rintro r w4 ⟨rfl, F4, P4, m4⟩
  obtain ⟨N, hN⟩ : ∃ N, N = Nat.min (a % 90).toNat k := ⟨_, rfl⟩
  have hNk : N ≤ k := by rw [hN]; exact Nat.min_le_right _ _
  rw [HD.out, ← hN] at P4 ⊢
  have Q4 := hid_mk (Q3.out.other m4 fun j hj hf => HDJ.out j hf hj)
  have HDJ4 : Hid (∀ j, F' j → ¬ F4 j) := hid_mk (apart_step (fun j hj hf => HDJ.out j hf hj) (fun j hj => (Q3.out.foot j hj).2) m4)
  have HP4 := hid_mk P4
  have hb4 := hb3.trans ((P3'.out.moved m4).mono hs1)
  have HL4 : Hid (((dsOf xs k).drop N).length = k - N) := hid_mk (by rw [List.length_drop, HD.out])
  have hle4 := dids_le ((dsOf xs k).take N) (L := []) List.Pairwise.nil
  rw [List.length_take, HD.out] at hle4
  simp only [List.length_nil, Nat.zero_add] at hle4
  clear P4 m4 P3' Q3 hb3 hN
  go_wp2_with fail
  refine (drain_any w1.heap.size p q _ _ F4 100 _ HP4.out (by have := HL4.out; omega) (by omega)).mono ?_
  rintro r w5 ⟨rfl, F5, P5, m5⟩
  have hmin5 : Nat.min (100 : Int).toNat (k - N) = k - N := Nat.min_eq_right (by show k - N ≤ 100; omega)
  rw [HL4.out, hmin5] at P5 ⊢
  have hall5 : ((dsOf xs k).drop N).take (k - N) = (dsOf xs k).drop N := List.take_of_length_le (by rw [HL4.out]; exact Nat.le_refl _)
  have hnil5 : ((dsOf xs k).drop N).drop (k - N) = [] := List.drop_of_length_le (by rw [HL4.out]; exact Nat.le_refl _)
  rw [hall5, hnil5, ← dids_append, List.take_append_drop] at P5
  have HP5 := hid_mk P5
  have Q5 := hid_mk (Q4.out.other m5 fun j hj hf => HDJ4.out j hj hf)
  have HDJ5 : Hid (∀ j, F' j → ¬ F5 j) := hid_mk (apart_step HDJ4.out (fun j hj => (Q4.out.foot j hj).2) m5)
  have hb5 := hb4.trans ((HP4.out.moved m5).mono hs1)
  have hsum : (N : Int) + ((k - N : Nat) : Int) = (k : Int) := by omega
  clear P5 m5 HP4 Q4 HDJ4 hb4 hmin5 hall5 hnil5 HL4 hle4
  go_wp2_with fail
  refine (drain_any w1.heap.size p' q' _ _ F' 100 _ Q5.out (by have := HD.out; omega) (by simp)).mono ?_
  rintro r w6 ⟨rfl, F6, P6, m6⟩
  have hmin6 : Nat.min (100 : Int).toNat k = k := Nat.min_eq_right (by show k ≤ 100; omega)
  rw [HD.out, hmin6] at P6 ⊢
  have hall6 : (dsOf xs k).take k = dsOf xs k := List.take_of_length_le (by rw [HD.out]; exact Nat.le_refl _)
  have hnil6 : (dsOf xs k).drop k = [] := List.drop_of_length_le (by rw [HD.out]; exact Nat.le_refl _)
  rw [hall6, hnil6] at P6
  have Q6 := hid_mk P6
  have HP6 := hid_mk (HP5.out.other m6 fun j hj hf => HDJ5.out j hf hj)
  have hb6 := hb5.trans ((Q5.out.moved m6).mono hs1)
  have hle6 := dids_le (dsOf xs k) (L := []) List.Pairwise.nil
  rw [HD.out] at hle6
  simp only [List.length_nil, Nat.zero_add] at hle6
  obtain ⟨R, hR⟩ : ∃ R, R = dids [] (dsOf xs k) := ⟨_, rfl⟩
  rw [← hR] at Q6 HP6 hle6
  clear P6 m6 HP5 Q5 HDJ5 hb5 hmin6 hall6 hnil6 hR
  go_wp2_with fail
  refine (prlen_any w1.heap.size p q _ _ F5 _ HP6.out).mono ?_
  rintro r w7 ⟨rfl, rfl⟩
  go_wp2_with fail
  refine (prlen_any w1.heap.size p' q' _ _ F6 _ Q6.out).mono ?_
  rintro r w8 ⟨rfl, rfl⟩
  obtain ⟨G1, T1⟩ := HP6.out.tree
  obtain ⟨G2, T2⟩ := Q6.out.tree
  have HT1 := hid_mk T1
  have HT2 := hid_mk T2
  clear T1 T2 HP6 Q6
  go_wp2_with fail
  refine (all_any w1.heap.size q R G1 _ HT1.out (by omega)).mono ?_
  rintro r w9 ⟨v9, rfl, R9, b9⟩
  have T9 := hid_mk (HT2.out.below b9)
  have HR9 := hid_mk R9
  have hb9 := hb6.trans (b9.mono hb6.size)
  clear R9 b9 HT1 HT2 hb6
  go_wp2_with fail
  refine (all_any w1.heap.size q' R G2 _ T9.out (by omega)).mono ?_
  rintro r w10 ⟨v10, rfl, R10, b10⟩
  have R9' := HR9.out.below b10
  have hb10 := hb9.trans (b10.mono hb9.size)
  clear b10
  go_wp2_with fail
  refine (same_true R _ _ v9 v10 _ R9' R10).mono ?_
  rintro r w11 ⟨rfl, b11⟩
  have hb11 := hb10.trans (b11.mono hb10.size)
  go_wp2_with fail
  go_ret
  exact ⟨rfl, hb11⟩

end Go.Proofs.Ytaoamkkgiiiejaa
