/- The walk over the law SideBetween. -/
import Derived.Test.YtaoamkkgiiiejaaSidePure
namespace Go.Proofs.Ytaoamkkgiiiejaa
open Go.RowKit
set_option linter.unusedVariables false
attribute [local go_sem ↓] Go.wp_at_zero Go.wp_at_succ

set_option maxHeartbeats 8000000 in
set_option maxRecDepth 100000 in
theorem sidebetween_walk (A : Option Addr) (n cap : Nat) (xs : List A8) (a : Int) (w : World) (hin : InA8 w A n cap xs) (hwf : (Lit.int .u8 a).wf = true) :
    Calls Try.prog 7 #[.slice A n cap, .int .u8 a] w fun r w' => r = .returned (.bool true) ∧ Below w.heap.size w w' := by
  have HIN := hid_mk hin
  obtain ⟨hxl, hnc, hcap, hoks, hA⟩ := hin
  obtain ⟨a0, a1⟩ := wf_u8 hwf
  obtain ⟨m, hmn, hm80, hmm, hmin⟩ := min_fact Try.prog n 80 (by omega)
  have hmc : m ≤ cap := by omega
  have HM := hid_mk (min_80 n m hmn hm80 hmm)
  have HXL := hid_mk hxl
  have HOKS := hid_mk hoks
  have HA := hid_mk hA
  clear hxl hmm hoks hA hwf
  go_enter Try.func7, Try.ntmps7
  go_wp2_with fail
  refine (sawake_any _).mono ?_
  rintro r w1 ⟨rfl, b1⟩
  have hs1 := b1.size
  have I1 := hid_mk (HIN.out.below b1)
  go_wp2_with fail
  refine (filled_any A n cap xs _ I1.out).mono ?_
  rintro r w2 ⟨p, q, F, rfl, P2, b2⟩
  rw [HM.out] at P2
  have HP2 := hid_mk P2
  have hs2 := b2.size
  have hb2 := bthen b1 b2
  clear P2 b1 b2 I1
  go_wp2_with fail
  refine (snew_any _).mono ?_
  rintro r w3 ⟨p', F1, rfl, S3, b3⟩
  go_wp2_with fail
  refine (new_any _).mono ?_
  rintro r w4 ⟨q', F2, rfl, T4, b4⟩
  obtain ⟨F', P4⟩ := Pr.fresh S3 b3 T4 b4
  have bb4 := bthen b3 b4
  have Q4 : Hid (Pr w1.heap.size w4 p' q' ((dsOf xs 0).drop 0) (dids [] ((dsOf xs 0).take 0)) F') := hid_mk (P4.base hs2)
  have HP4 := hid_mk (HP2.out.below bb4)
  have HDJ4 : Hid (∀ j, F j → ¬ F' j) := hid_mk fun j hj hf => by have := (HP2.out.foot j hj).2; have := (P4.foot j hf).1; omega
  have hb4 := hb2.trans (bb4.mono hb2.size)
  clear S3 T4 P4 b3 b4 bb4 HP2 hb2
  go_upto_if 38 with fail
  go_cut [9] (fun s9 wx => ∃ K : Int, s9 = .int .i64 K ∧ wx = w4)
  case first =>
    by_cases hm0 : m = 0
    · have hm1 : ¬ 0 < m := by omega
      have hm2 : ¬ (0 : Int) < (m : Int) := by omega
      clear hm0
      go_wp2_with fail
      go_meet
      case rel => exact ⟨_, rfl, rfl⟩
    · have hm1 : 0 < m := by omega
      have hm2 : (0 : Int) < (m : Int) := by omega
      have hm3 : ¬ (m : Int) = 0 := by omega
      go_wp2_with fail
      go_meet
      case rel => exact ⟨_, rfl, rfl⟩
  case rest =>
    obtain ⟨K, rfl, rfl⟩ := hcut
    clear hmin
    go_wp2_with fail
    go_loopw [46] (fun iv wr => ∃ (i c : Nat) (F' : Nat → Prop), iv = .int .i64 i ∧ i ≤ m ∧ c ≤ i ∧ Hid (Pr w1.heap.size wr p q (dsOf xs m) [] F) ∧ Hid (Pr w1.heap.size wr p' q' ((dsOf xs i).drop c) (dids [] ((dsOf xs i).take c)) F') ∧ Hid (∀ j, F j → ¬ F' j) ∧ Below w.heap.size w wr) (fun iv _ => m - (intOf iv).toNat)
    case atStart => exact ⟨0, 0, F', rfl, Nat.zero_le _, Nat.le_refl _, HP4, Q4, HDJ4, hb4⟩
    case round =>
      clear HP4 Q4 HDJ4 hb4
      obtain ⟨i, c, F', rfl, hi, hc, HP, HQ, HDJ, hb⟩ := hrel
      by_cases hlt : i < m
      · obtain ⟨b, off, rfl, hbw, hcs⟩ := HA.out (by omega)
        obtain ⟨c0, c1, c2⟩ := hcs i (by omega)
        obtain ⟨x, hx⟩ : ∃ x, x = a8 xs i := ⟨_, rfl⟩
        rw [← hx] at c0 c1 c2
        have c0' := keep_cell hb c0
        have c1' := keep_cell hb c1
        have c2' := keep_cell hb c2
        have HO := hid_mk (HOKS.out i (by omega))
        have hlen := dsOf_length xs i (by have := HXL.out; omega)
        have hlen1 := dsOf_length xs (i + 1) (by have := HXL.out; omega)
        have HN1 : Hid ((dsOf xs i).drop c ++ [dOf x] = (dsOf xs (i + 1)).drop c) := hid_mk (by
          rw [dsOf_succ xs i (by have := HXL.out; omega), List.drop_append_of_le_length (by omega), hx])
        have HN2 : Hid (dids [] ((dsOf xs i).take c) = dids [] ((dsOf xs (i + 1)).take c)) := hid_mk (by
          rw [dsOf_succ xs i (by have := HXL.out; omega), List.take_append_of_le_length (by omega)])
        rw [← hx] at HO
        have hl100 : ((dsOf xs i).drop c).length < 100000 := by rw [List.length_drop]; omega
        have HL1 := hid_mk hlen1
        have bb : Below wr.heap.size wr (wr.alloc (.cells #[.int .u8 x.kind, .int .u8 x.key, .int .u8 x.id] 33)).drew := pw_below (n := 1) (balloc _)
        have PD := hid_mk (HP.out.below bb)
        have QD := hid_mk (HQ.out.below bb)
        have hbD := hb.trans (bb.mono hb.size)
        have HFN : Hid (¬ F' wr.heap.size) := hid_mk fun h9 => by have := (HQ.out.foot _ h9).2; omega
        have Y := heap_alloc_new wr (.cells #[.int .u8 x.kind, .int .u8 x.key, .int .u8 x.id] 33)
        have y0 : (wr.alloc (.cells #[.int .u8 x.kind, .int .u8 x.key, .int .u8 x.id] 33)).drew.cell? ⟨wr.heap.size, 0, none⟩ = some (.int .u8 x.kind) := (cell_of_row _ _ 0 _ _ _ Y).trans rfl
        have y1 : (wr.alloc (.cells #[.int .u8 x.kind, .int .u8 x.key, .int .u8 x.id] 33)).drew.cell? ⟨wr.heap.size, 1, none⟩ = some (.int .u8 x.key) := (cell_of_row _ _ 1 _ _ _ Y).trans rfl
        have y2 : (wr.alloc (.cells #[.int .u8 x.kind, .int .u8 x.key, .int .u8 x.id] 33)).drew.cell? ⟨wr.heap.size, 2, none⟩ = some (.int .u8 x.id) := (cell_of_row _ _ 2 _ _ _ Y).trans rfl
        clear hcs c0 c1 c2 hx hlen hlen1 bb Y HP HQ hb
        go_wp2_with fail
        go_region_held3 (fun w' => w'.cell? ⟨wr.heap.size, 0, none⟩ = some (.int .u8 x.kind) ∧ w'.cell? ⟨wr.heap.size, 1, none⟩ = some (.int .u8 x.key) ∧ w'.cell? ⟨wr.heap.size, 2, none⟩ = some (.int .u8 x.id))
          ((first | go_keep | exact ⟨K0, K1, K2⟩ | exact ⟨J0, J1, J2⟩))
          ((first
            | (go_at_call 14; refine (entry_any x _ HO.out).mono ?_; rintro r w4 ⟨rfl, b4⟩; have P4 := hid_mk (PD.out.below b4); have Q4 := hid_mk (QD.out.below b4); have hb4 := hbD.trans (b4.mono hbD.size); have K0 := keep_cell b4 y0; have K1 := keep_cell b4 y1; have K2 := keep_cell b4 y2)
            | (go_at_call 22; refine (prput_any w1.heap.size p' q' _ _ F' _ x.ent _ Q4.out hl100).mono ?_; rintro r w5 ⟨rfl, F5, Q5, m5⟩; have J0 := m5.cell K0 (fun h9 => HFN.out h9); have J1 := m5.cell K1 (fun h9 => HFN.out h9); have J2 := m5.cell K2 (fun h9 => HFN.out h9))))
        have hb5 := hb4.trans ((Q4.out.moved m5).mono hs1)
        have HQ5 : Hid (Pr w1.heap.size w5 p' q' ((dsOf xs (i + 1)).drop c) (dids [] ((dsOf xs (i + 1)).take c)) F5) := hid_mk (by rw [← HN1.out, ← HN2.out]; exact Q5)
        have HP5 := hid_mk (P4.out.other m5 fun j hj hf => HDJ.out j hj hf)
        have HDJ5 : Hid (∀ j, F j → ¬ F5 j) := hid_mk (apart_step HDJ.out (fun j hj => (P4.out.foot j hj).2) m5)
        clear J0 J1 J2 K0 K1 K2 Q5 m5 P4 Q4 PD QD hbD hb4 y0 y1 y2 c0' c1' c2' b4 HN1 HN2
        by_cases hik : (i : Int) = K
        · have hikb : ((i : Int) == K) = true := by simp [hik]
          have HIK := hid_mk hik
          clear hik
          go_wp2_with fail
          have hle := dids_le ((dsOf xs (i + 1)).take c) (L := []) List.Pairwise.nil
          rw [List.length_take, HL1.out] at hle
          simp only [List.length_nil, Nat.zero_add] at hle
          have hmin9 : Nat.min c (i + 1) ≤ i + 1 := Nat.min_le_right _ _
          have hle9 : (dids [] ((dsOf xs (i + 1)).take c)).length < 100000 := by
            have : min c (i + 1) ≤ i + 1 := Nat.min_le_right _ _
            omega
          refine (drain_any w1.heap.size p' q' _ _ F5 1 _ HQ5.out (by rw [List.length_drop, HL1.out]; omega) hle9).mono ?_
          rintro r w6 ⟨rfl, F6, Q6, m6⟩
          obtain ⟨N, hN⟩ : ∃ N, N = Nat.min (1 : Int).toNat ((dsOf xs (i + 1)).drop c).length := ⟨_, rfl⟩
          have hNle : N ≤ i + 1 - c := Nat.le_trans (show N ≤ ((dsOf xs (i + 1)).drop c).length from by rw [hN]; exact Nat.min_le_right _ _) (Nat.le_of_eq (by rw [List.length_drop, HL1.out]))
          rw [← hN] at Q6 ⊢
          rw [List.drop_drop, ← dids_append, ← List.take_add] at Q6
          have HQ6 := hid_mk Q6
          have HP6 := hid_mk (HP5.out.other m6 fun j hj hf => HDJ5.out j hj hf)
          have HDJ6 : Hid (∀ j, F j → ¬ F6 j) := hid_mk (apart_step HDJ5.out (fun j hj => (HP5.out.foot j hj).2) m6)
          have hb6 := hb5.trans ((HQ5.out.moved m6).mono hs1)
          clear Q6 m6 HQ5 HP5 HDJ5 hb5 hN hle hmin9 hle9
          go_wp2_with fail
          exact ⟨⟨i + 1, c + N, F6, by go_num, by omega, by omega, HP6, HQ6, HDJ6, hb6⟩, by simp [intOf]; omega⟩
        · have hikb : ((i : Int) == K) = false := by simp [hik]
          go_wp2_with fail
          exact ⟨⟨i + 1, c, F5, by go_num, by omega, by omega, HP5, HQ5, HDJ5, hb5⟩, by simp [intOf]; omega⟩
      · obtain rfl : i = m := by omega
        have hlen := dsOf_length xs i (by have := HXL.out; omega)
        have HL := hid_mk hlen
        have hc80 : c ≤ 80 := by omega
        have hi80 : i ≤ 80 := by omega
        clear hlen hlt HOKS HA HIN
        go_wp2_with fail
        refine (drain_any w1.heap.size p q _ [] F 100 _ HP.out (by have := HL.out; omega) (by simp)).mono ?_
        rintro r w6 ⟨rfl, F6, P6, m6⟩
        have hmin6 : Nat.min (100 : Int).toNat i = i := Nat.min_eq_right (by show i ≤ 100; omega)
        have hall6 : (dsOf xs i).take i = dsOf xs i := List.take_of_length_le (by rw [HL.out]; exact Nat.le_refl _)
        rw [HL.out, hmin6, hall6] at P6
        have HP6 := hid_mk P6
        have HQ6 := hid_mk (HQ.out.other m6 fun j hj hf => HDJ.out j hf hj)
        have HDJ6 : Hid (∀ j, F' j → ¬ F6 j) := hid_mk (apart_step (fun j hj hf => HDJ.out j hf hj) (fun j hj => (HQ.out.foot j hj).2) m6)
        have hb6 := hb.trans ((HP.out.moved m6).mono hs1)
        have hle := dids_le ((dsOf xs i).take c) (L := []) List.Pairwise.nil
        rw [List.length_take, HL.out] at hle
        simp only [List.length_nil, Nat.zero_add] at hle
        have hle9 : (dids [] ((dsOf xs i).take c)).length < 100000 := by
          have : min c i ≤ i := Nat.min_le_right _ _
          omega
        have HLE9 := hid_mk hle9
        clear P6 m6 HP HQ HDJ hb hmin6 hall6 hle hle9
        go_wp2_with fail
        refine (drain_any w1.heap.size p' q' _ _ F' 100 _ HQ6.out (by rw [List.length_drop, HL.out]; omega) HLE9.out).mono ?_
        rintro r w7 ⟨rfl, F7, Q7, m7⟩
        have hl7 : ((dsOf xs i).drop c).length = i - c := by rw [List.length_drop, HL.out]
        have hmin7 : Nat.min (100 : Int).toNat (i - c) = i - c := Nat.min_eq_right (by show i - c ≤ 100; omega)
        have hall7 : ((dsOf xs i).drop c).take (i - c) = (dsOf xs i).drop c := List.take_of_length_le (by rw [hl7]; exact Nat.le_refl _)
        have hnil7 : ((dsOf xs i).drop c).drop (i - c) = [] := List.drop_of_length_le (by rw [hl7]; exact Nat.le_refl _)
        rw [hl7, hmin7, hall7, hnil7, ← dids_append, List.take_append_drop] at Q7
        have HQ7 := hid_mk Q7
        have HP7 := hid_mk (HP6.out.other m7 fun j hj hf => HDJ6.out j hf hj)
        have hb7 := hb6.trans ((HQ6.out.moved m7).mono hs1)
        have hleR := dids_le (dsOf xs i) (L := []) List.Pairwise.nil
        rw [HL.out] at hleR
        simp only [List.length_nil, Nat.zero_add] at hleR
        obtain ⟨R, hR⟩ : ∃ R, R = dids [] (dsOf xs i) := ⟨_, rfl⟩
        rw [← hR] at HQ7 HP7 hleR
        obtain ⟨G1, T1⟩ := HP7.out.tree
        obtain ⟨G2, T2⟩ := HQ7.out.tree
        have HT1 := hid_mk T1
        have HT2 := hid_mk T2
        clear Q7 m7 HP6 HQ6 HDJ6 hb6 hl7 hmin7 hall7 hnil7 hR T1 T2 HP7
        go_wp2_with fail
        refine (all_any w1.heap.size q R G1 _ HT1.out (by omega)).mono ?_
        rintro r w9 ⟨v9, rfl, R9, b9⟩
        have T9 := hid_mk (HT2.out.below b9)
        have Q9 := hid_mk (HQ7.out.below b9)
        have HR9 := hid_mk R9
        have hb9 := hb7.trans (b9.mono hb7.size)
        clear R9 b9 HT1 HT2 hb7 HQ7
        go_wp2_with fail
        refine (all_any w1.heap.size q' R G2 _ T9.out (by omega)).mono ?_
        rintro r w10 ⟨v10, rfl, R10, b10⟩
        have R9' := HR9.out.below b10
        have Q10 := hid_mk (Q9.out.below b10)
        have hb10 := hb9.trans (b10.mono hb9.size)
        clear b10 Q9
        go_wp2_with fail
        refine (same_true R _ _ v9 v10 _ R9' R10).mono ?_
        rintro r w11 ⟨rfl, b11⟩
        have Q11 := hid_mk (Q10.out.below b11)
        have hb11 := hb10.trans (b11.mono hb10.size)
        clear b11 Q10 R9' R10
        go_wp2_with fail
        refine (prlen_any w1.heap.size p' q' _ _ F7 _ Q11.out).mono ?_
        rintro r w12 ⟨rfl, rfl⟩
        go_wp2_with fail
        go_ret
        exact ⟨rfl, hb11⟩

end Go.Proofs.Ytaoamkkgiiiejaa
