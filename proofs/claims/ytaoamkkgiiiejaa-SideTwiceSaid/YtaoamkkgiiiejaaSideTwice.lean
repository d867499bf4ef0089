/- The walk over the law SideTwice. -/
import Derived.Test.YtaoamkkgiiiejaaSidePure
import Derived.Test.YtaoamkkgiiiejaaTreeDc
namespace Go.Proofs.Ytaoamkkgiiiejaa
open Go.RowKit
set_option linter.unusedVariables false
attribute [local go_sem ↓] Go.wp_at_zero Go.wp_at_succ

theorem infoA8 : (Try.prog.info? 33).map (fun i => (i.zero, i.size, i.bytes)) = some (some (.agg #[.int .u8 0, .int .u8 0, .int .u8 0]), 3, 3) := by kernel_rfl
theorem app_acts {B : Nat} {w : World} {v : Value} {n : Nat} {cs : List Value} (h : Rw B w 33 3 v n cs) (hB : B ≤ w.heap.size) {A : Option Addr} {m cap : Nat} {ys : List A8} (hy : InA8 w A m cap ys) (hn : n < 1000) (hm : m < 1000) :
    ∃ v' w', (Builtin.append_ #[22, 22] 22 #[v, .slice A m cap]).run Try.prog w = .ok v' w' ∧ Rw B w' 33 3 v' (n + m) (cs ++ acells ys) ∧ Mv (own v) (own v') w w' := by
  obtain ⟨i0, hi, hz, hs, hb⟩ := info_parts infoA8
  by_cases h0 : m = 0
  · subst h0
    obtain ⟨b, c, rfl, hc, _, _⟩ := h.shape
    have hys : ys = [] := List.eq_nil_of_length_eq_zero hy.1
    subst hys
    exact ⟨_, _, run_app_none w _ _ _ i0 Try.underlying22 hi b A n c cap hc, by simpa [acells] using h, Mv.refl _ _⟩
  · obtain ⟨b, off, rfl, _, _⟩ := hy.2.2.2.2 (by omega)
    exact run_app_rw h hB _ _ i0 _ 3 Try.underlying22 hi hz hs hb rfl (by omega) ⟨b, off, none⟩ m cap (by omega) (acells ys) (by rw [acells_length, hy.1]) hy.cells (acells_one ys) (by omega) (by omega)

set_option maxHeartbeats 4000000 in
set_option maxRecDepth 100000 in
theorem sidetwice_walk (A : Option Addr) (n cap : Nat) (xs : List A8) (w : World) (hin : InA8 w A n cap xs) :
    Calls Try.prog 8 #[.slice A n cap] w fun r w' => r = .returned (.bool true) ∧ Below w.heap.size w w' := by
  have HIN := hid_mk hin
  obtain ⟨hxl, hnc, hcap, _, _⟩ := hin
  obtain ⟨m, hmn, hm40, hmm, hmin⟩ := min_fact Try.prog n 40 (by omega)
  have hmc : m ≤ cap := by omega
  obtain ⟨ys, hys⟩ : ∃ ys, ys = xs.take m := ⟨_, rfl⟩
  have hyl : ys.length = m := by rw [hys, List.length_take]; omega
  have HYL := hid_mk hyl
  obtain ⟨Ds, hDs⟩ : ∃ Ds, Ds = ys.map dOf := ⟨_, rfl⟩
  have HDL : Hid (Ds.length = m) := hid_mk (by rw [hDs, List.length_map, hyl])
  have HD1 : Hid (dsOf ys (Nat.min m 80) = Ds) := hid_mk (by
    rw [hDs]; unfold dsOf
    rw [show Nat.min m 80 = m from Nat.min_eq_left (by omega), List.take_of_length_le (by omega)])
  have HD2 : Hid (dsOf (ys ++ ys) (Nat.min (ys ++ ys).length 80) = Ds ++ Ds) := hid_mk (by
    have h9 : (ys ++ ys).length = m + m := by rw [List.length_append, hyl]
    rw [hDs]; unfold dsOf
    rw [show Nat.min (ys ++ ys).length 80 = m + m from by rw [h9]; exact Nat.min_eq_left (by omega), List.take_of_length_le (by omega), List.map_append])
  have HYS := hid_mk hys
  clear hxl hmm hys hyl hDs
  go_enter Try.func8, Try.ntmps8
  go_wp2_with fail
  refine (sawake_any _).mono ?_
  rintro r w1 ⟨rfl, b1⟩
  have hs1 := b1.size
  have I1 : Hid (InA8 w1 A m cap ys) := hid_mk (by rw [HYS.out]; exact (HIN.out.below b1).front m hmn)
  go_wp2_with fail
  refine (filled_any A m cap ys _ I1.out).mono ?_
  rintro r w2 ⟨p, q, F, rfl, P2, b2⟩
  rw [HD1.out] at P2
  have HP2 := hid_mk P2
  have hs2 := b2.size
  have I2 := I1.out.below b2
  have hb2 := bthen b1 b2
  have ba : Below w2.heap.size w2 (w2.alloc (.cells #[] 33)) := balloc _
  have he : Rw w2.heap.size (w2.alloc (.cells #[] 33)) 33 3 (.slice (some ⟨w2.heap.size, 0, none⟩) 0 0) 0 [] := ⟨by simp, .inr ⟨_, 0, #[], rfl, Nat.le_refl _, heap_alloc_new w2 _, Nat.le_refl _, Nat.zero_le _, by simp, rfl⟩⟩
  obtain ⟨v3, w3, hr3, R3, m3⟩ := app_acts he (by simp) (I2.below ba) (by omega) (by omega)
  have b3 : Below w2.heap.size w2 w3 := ba.trans (m3.below (fun k hk => by have e : w2.heap.size = k := by simpa [own, Value.ownBlock] using hk
                                                                           omega) (by simp))
  obtain ⟨v4, w4, hr4, R4, m4⟩ := app_acts R3 b3.size (I2.below b3) (by omega) (by omega)
  have b4 : Below w2.heap.size w2 w4 := b3.trans (m4.below (fun k hk => (R3.lt k hk).1) b3.size)
  have R4' : Rw w2.heap.size w4 33 3 v4 (ys ++ ys).length (acells (ys ++ ys)) := by
    rw [List.length_append, acells_append, HYL.out]
    simpa using R4
  obtain ⟨A4, c4, rfl, I4⟩ := rw_acts R4' (fun i hi => by
    rw [a8_append]
    have h9 := I2.2.2.2.1
    rw [List.length_append] at hi
    have h8 := HYL.out
    split
    · exact h9 i (by omega)
    · exact h9 _ (by omega))
  obtain ⟨A3, c3, rfl, _, _, _⟩ := R3.shape
  rw [Nat.zero_add] at hr3 hr4
  have HI4 := hid_mk I4
  have HP4 := hid_mk (HP2.out.below b4)
  have hb4 := hb2.trans (b4.mono hb2.size)
  have hs4 := b4.size
  have HFL : Hid (∀ j, F j → j < w2.heap.size) := hid_mk fun j hj => (HP2.out.foot j hj).2
  obtain ⟨M, hM⟩ : ∃ M, M = (ys ++ ys).length := ⟨_, rfl⟩
  rw [← hM] at HI4 HD2 hr4
  have hM2 : M = m + m := by rw [hM, List.length_append, HYL.out]
  have HM2 := hid_mk hM2
  clear b1 b2 b3 b4 ba he R3 R4 R4' m3 m4 I2 I4 P2 HP2 hb2 hM hM2
  go_wp2_with (at_builtin; refine Lib.wpList_append_run _ rfl _ _ 22 22 rfl _ _ rfl rfl _ _ (by first | exact hr3 | exact hr4) ?_)
  refine (filled_any A4 M c4 (ys ++ ys) _ HI4.out).mono ?_
  rintro r w5 ⟨p', q', F', rfl, P5, b5⟩
  rw [HD2.out] at P5
  have Q5 := hid_mk (P5.base (show w1.heap.size ≤ w4.heap.size by omega))
  have HP5 := hid_mk (HP4.out.below b5)
  have HDJ : Hid (∀ j, F j → ¬ F' j) := hid_mk fun j hj hf => by have := HFL.out j hj; have := (P5.foot j hf).1; omega
  have hb5 := hb4.trans (b5.mono hb4.size)
  clear P5 b5 HP4 hb4 HI4 hr3 hr4 hmin
  go_wp2_with fail
  refine (drain_any w1.heap.size p q _ [] F 100 _ HP5.out (by have := HDL.out; omega) (by simp)).mono ?_
  rintro r w6 ⟨rfl, F6, P6, m6⟩
  have hmin6 : Nat.min (100 : Int).toNat m = m := Nat.min_eq_right (by show m ≤ 100; omega)
  have hall6 : Ds.take m = Ds := List.take_of_length_le (by rw [HDL.out]; exact Nat.le_refl _)
  rw [HDL.out, hmin6, hall6] at P6
  have Q6 := hid_mk (Q5.out.other m6 fun j hj hf => HDJ.out j hf hj)
  have HDJ6 : Hid (∀ j, F' j → ¬ F6 j) := hid_mk (apart_step (fun j hj hf => HDJ.out j hf hj) (fun j hj => (Q5.out.foot j hj).2) m6)
  have HP6 := hid_mk P6
  have hb6 := hb5.trans ((HP5.out.moved m6).mono hs1)
  clear P6 m6 HP5 Q5 HDJ hb5 hmin6 hall6
  go_wp2_with fail
  refine (drain_any w1.heap.size p' q' _ [] F' 100 _ Q6.out (by have := HDL.out; rw [List.length_append]; omega) (by simp)).mono ?_
  rintro r w7 ⟨rfl, F7, P7, m7⟩
  have hl7 : (Ds ++ Ds).length = m + m := by rw [List.length_append, HDL.out]
  have hmin7 : Nat.min (100 : Int).toNat (m + m) = m + m := Nat.min_eq_right (by show m + m ≤ 100; omega)
  have hall7 : (Ds ++ Ds).take (m + m) = Ds ++ Ds := List.take_of_length_le (by rw [hl7]; exact Nat.le_refl _)
  rw [hl7, hmin7, hall7, dids_append, dids_twice List.Pairwise.nil] at P7
  have Q7 := hid_mk P7
  have HP7 := hid_mk (HP6.out.other m7 fun j hj hf => HDJ6.out j hf hj)
  have hb7 := hb6.trans ((Q6.out.moved m7).mono hs1)
  have hle := dids_le Ds (L := []) List.Pairwise.nil
  rw [HDL.out] at hle
  simp only [List.length_nil, Nat.zero_add] at hle
  obtain ⟨R, hR⟩ : ∃ R, R = dids [] Ds := ⟨_, rfl⟩
  rw [← hR] at Q7 HP7 hle
  obtain ⟨G1, T1⟩ := HP7.out.tree
  obtain ⟨G2, T2⟩ := Q7.out.tree
  have HT1 := hid_mk T1
  have HT2 := hid_mk T2
  clear P7 m7 HP6 Q6 HDJ6 hb6 hl7 hmin7 hall7 hR T1 T2 HP7 Q7
  go_wp2_with fail
  refine (all_any w1.heap.size q R G1 _ HT1.out (by omega)).mono ?_
  rintro r w9 ⟨v9, rfl, R9, b9⟩
  have T9 := hid_mk (HT2.out.below b9)
  have HR9 := hid_mk R9
  have hb9 := hb7.trans (b9.mono hb7.size)
  clear R9 b9 HT1 HT2 hb7
  go_wp2_with fail
  refine (all_any w1.heap.size q' R G2 _ T9.out (by omega)).mono ?_
  rintro r w10 ⟨v10, rfl, R10, b10⟩
  have R9' := HR9.out.below b10
  have hb10 := hb9.trans (b10.mono hb9.size)
  clear b10
  go_wp2_with fail
  refine (same_true R _ _ v9 v10 _ R9' R10).mono ?_
  rintro r w11 ⟨rfl, b11⟩
  have hb11 := hb10.trans (b11.mono hb10.size)
  go_wp2_with fail
  go_ret
  exact ⟨rfl, hb11⟩

end Go.Proofs.Ytaoamkkgiiiejaa
