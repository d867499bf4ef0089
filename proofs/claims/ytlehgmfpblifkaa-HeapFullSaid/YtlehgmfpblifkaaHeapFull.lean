/- The walk over the law HeapFull. -/
import Derived.Test.YtlehgmfpblifkaaHeapE
namespace Go.Proofs.Ytlehgmfpblifkaa
open Go.RowKit
set_option linter.unusedVariables false
attribute [local go_sem ↓] Go.wp_at_zero Go.wp_at_succ

theorem wf_u16 {z : Int} (h : (Lit.int .u16 z).wf = true) : 0 ≤ z ∧ z ≤ 65535 := by
  simp [Lit.wf, IntKind.min, IntKind.max, IntKind.bits, IntKind.signed] at h
  omega
def rI (j : Int) : Rv := ⟨2, j, ⟨#[]⟩, ⟨none, 0, 0⟩, ⟨none, 0, 0⟩⟩
def fullD (m : Nat) : List Dc := (List.range m).map fun (j : Nat) => (⟨(j : Int) + 1, rI (j : Int)⟩ : Dc)
theorem fullD_length (m : Nat) : (fullD m).length = m := by simp [fullD]
theorem fullD_succ (m : Nat) : fullD (m + 1) = fullD m ++ [⟨(m : Int) + 1, rI m⟩] := by unfold fullD; rw [List.range_succ, List.map_append]; rfl
theorem fullD_asc (m : Nat) : Asc (fullD m) := by
  unfold Asc fullD
  rw [List.pairwise_map]
  refine List.Pairwise.imp ?_ (List.pairwise_lt_range (n := m))
  intro a b h
  show (a : Int) + 1 < (b : Int) + 1
  omega
theorem fullD_has (m : Nat) (g : Int) (h0 : 0 ≤ g) : hasD (fullD m) (g + 1) = decide (g < (m : Int)) := by
  unfold hasD fullD
  by_cases h : g < (m : Int)
  · rw [decide_eq_true h, List.any_eq_true]
    refine ⟨⟨(g.toNat : Int) + 1, rI g.toNat⟩, List.mem_map.2 ⟨g.toNat, List.mem_range.2 (by omega), rfl⟩, ?_⟩
    simp only [decide_eq_true_eq]
    omega
  · rw [decide_eq_false h, List.any_eq_false]
    intro x hx
    obtain ⟨j, hj, rfl⟩ := List.mem_map.1 hx
    have := List.mem_range.1 hj
    simp only [decide_eq_true_eq]
    omega
theorem delD_length {ds : List Dc} {id : Int} (hs : Asc ds) : (delD ds id).length = if hasD ds id = true then ds.length - 1 else ds.length := by
  unfold delD
  by_cases h : hasD ds id = true
  · rw [if_pos h, if_pos h, List.length_append, List.length_take, List.length_drop]
    have := (has_at hs h).1
    omega
  · rw [if_neg h, if_neg h]

set_option maxHeartbeats 4000000 in
set_option maxRecDepth 100000 in
theorem heapfull_walk (a b : Int) (w : World) (ha : (Lit.int .u16 a).wf = true) (hb : (Lit.int .u8 b).wf = true) :
    Calls Try.prog 3 #[.int .u16 a, .int .u8 b] w fun e w' => e = .returned (.bool true) ∧ Below w.heap.size w w' := by
  have ha' := wf_u16 ha
  have hb' := wf_u8 hb
  obtain ⟨K, hK⟩ : ∃ K : Nat, a.tmod 520 = (K : Int) := ⟨(a % 520).toNat, by rw [Int.tmod_eq_emod_of_nonneg ha'.1]; have := Int.emod_nonneg a (b := 520) (by omega); omega⟩
  have hK520 : K < 520 := by
    rw [Int.tmod_eq_emod_of_nonneg ha'.1] at hK
    have := Int.emod_lt_of_pos a (b := 520) (by omega); omega
  obtain ⟨m, hmK, hm500, hmm, hmin⟩ := min_fact Try.prog K 500 (by omega)
  have hwK : wrap64 (K : Int) = (K : Int) := by unfold wrap64; omega
  have hwb0 : wrap64 b = b := by unfold wrap64; omega
  have hwb1 : wrap64 (b + 1) = b + 1 := by unfold wrap64; omega
  have HA := hid_mk ha'
  have HB := hid_mk hb'
  have HMM := hid_mk hmm
  have HK500 := hid_mk hK520
  have HMK := hid_mk hmK
  have HM500 := hid_mk hm500
  clear ha hb ha' hb' hmm hK520 hmK hm500
  go_enter Try.func3, Try.ntmps3
  go_wp2_with fail
  refine (hawake_any _).mono ?_
  rintro e w1 ⟨rfl, b1⟩
  go_wp2_with fail
  refine (hnew_any _).mono ?_
  rintro e w2 ⟨p, F0, rfl, T2, b2⟩
  have HT2 : Hid (Hp w.heap.size w2 p (fullD 0) ((0 : Nat) : Int) F0) := hid_mk (T2.base b1.size)
  have B2 := bthen b1 b2
  clear T2 b1 b2
  go_wp2_with fail
  rw [hwK]
  go_loopw [7] (fun iv wr => ∃ (k j : Nat) (F : Nat → Prop), iv = .int .i64 k ∧ k ≤ K ∧ j ≤ k ∧ j ≤ 500 ∧ (j = k ∨ j = 500) ∧ Hid (Hp w.heap.size wr p (fullD j) ((j : Nat) : Int) F) ∧ Below w.heap.size w wr) (fun iv _ => K - (intOf iv).toNat)
  case atStart => exact ⟨0, 0, F0, rfl, Nat.zero_le _, Nat.le_refl _, by omega, .inl rfl, HT2, B2⟩
  case round =>
    clear HT2 B2
    obtain ⟨k, j, F, rfl, hk, hjk, hj5, hjj, HT, hb⟩ := hrel
    by_cases hlt : k < K
    · have hkK : (k : Int) < (K : Int) := by omega
      have hw1 : IntKind.i64.wrap ((k : Int) + 1) = (k : Int) + 1 := by have := HK500.out; rw [IntKind.wrap_i64]; omega
      by_cases h5 : k < 500
      · obtain rfl : j = k := by omega
        have h5i : (j : Int) < 500 := by omega
        go_wp2_with fail
        refine (hins_any w.heap.size p (fullD j) j F (rI j) _ HT.out hb.size (by rw [fullD_length]; exact h5) (by omega) (by omega)).mono ?_
        rintro e w3 ⟨rfl, F', T3, m3⟩
        rw [← fullD_succ] at T3
        have HT3 : Hid (Hp w.heap.size w3 p (fullD (j + 1)) ((j + 1 : Nat) : Int) F') := hid_mk (by rw [Int.natCast_add]; exact T3)
        have hb3 := hb.trans (HT.out.moved m3 hb.size)
        clear T3 m3 HT hb
        go_wp2_with fail
        refine ⟨⟨j + 1, j + 1, F', ?_, by omega, by omega, by omega, .inl rfl, HT3, hb3⟩, ?_⟩
        · go_num
        · simp [intOf]
          omega
      · obtain rfl : j = 500 := by omega
        have h5i : ¬ (k : Int) < 500 := by omega
        go_wp2_with fail
        refine (hins_full w.heap.size p (fullD 500) _ F (rI k) _ HT.out (by rw [fullD_length]; omega)).mono ?_
        rintro e w3 ⟨rfl, b3⟩
        have HT3 := hid_mk (HT.out.below b3)
        have hb3 := hb.trans (b3.mono hb.size)
        clear b3 HT hb
        go_wp2_with fail
        refine ⟨⟨k + 1, 500, F, ?_, by omega, by omega, by omega, .inr rfl, HT3, hb3⟩, ?_⟩
        · go_num
        · simp [intOf]
          omega
    · obtain rfl : k = K := by omega
      obtain rfl : j = m := by have h1 := HMM.out; have h2 := HMK.out; have h3 := HM500.out; omega
      have hwb : IntKind.i64.wrap (b + 1) = b + 1 := by have := HB.out; rw [IntKind.wrap_i64]; omega
      have hlen := fullD_length j
      have hhas := fullD_has j b HB.out.1
      have hdl := delD_length (id := b + 1) (fullD_asc j)
      have hjI : IntKind.i64.wrap ((j : Int) + 1) = (j : Int) + 1 := by rw [IntKind.wrap_i64]; omega
      by_cases hbk : b < (k : Int)
      · have hbj : b < (j : Int) := by have := HB.out; omega
        rw [decide_eq_true hbj] at hhas
        rw [hhas, if_pos rfl, hlen] at hdl
        have hj0 : 0 < j := by have := HB.out; omega
        have HHAS := hid_mk hhas
        have HDL := hid_mk hdl
        clear hlen hhas hdl hbj
        go_wp2_with fail
        refine (hdel_any w.heap.size p (fullD j) j (b + 1) F _ HT.out hb.size (fullD_asc j) (by rw [fullD_length]; omega)).mono ?_
        rintro e w3 ⟨rfl, F', T3, m3⟩
        rw [HHAS.out]
        have HT3 := hid_mk T3
        have hb3 := hb.trans (HT.out.moved m3 hb.size)
        clear T3 m3 HT hb
        go_wp2_with fail
        refine (hins_any w.heap.size p (delD (fullD j) (b + 1)) j F' zR _ HT3.out hb3.size (by rw [HDL.out]; omega) (by omega) (by omega)).mono ?_
        rintro e w4 ⟨rfl, F4, T4, m4⟩
        have HT4 := hid_mk T4
        have hb4 := hb3.trans (HT3.out.moved m4 hb3.size)
        have HLE : Hid (((delD (fullD j) (b + 1) ++ [(⟨(j : Int) + 1, zR⟩ : Dc)]).length : Nat) = j) := hid_mk (by rw [List.length_append, HDL.out]; simp; omega)
        have hj5i : (j : Int) ≤ 500 := by omega
        clear T4 m4 HT3 hb3
        go_wp2_with fail
        refine (hlen_any w.heap.size p _ _ F4 _ HT4.out).mono ?_
        rintro e w5 ⟨rfl, rfl⟩
        rw [HLE.out]
        go_wp2_with fail
        go_ret
        exact ⟨rfl, hb4⟩
      · have hbj : ¬ b < (j : Int) := by omega
        obtain rfl : j = k := by have := HB.out; omega
        rw [decide_eq_false hbj] at hhas
        rw [hhas, if_neg (by simp), hlen] at hdl
        have HHAS := hid_mk hhas
        have HDL := hid_mk hdl
        have hj256 : (j : Int) ≤ 255 := by have := HB.out; omega
        have hj500 : (j : Int) < 500 := by omega
        clear hlen hhas hdl hbj
        go_wp2_with fail
        refine (hdel_any w.heap.size p (fullD j) j (b + 1) F _ HT.out hb.size (fullD_asc j) (by rw [fullD_length]; omega)).mono ?_
        rintro e w3 ⟨rfl, F', T3, m3⟩
        rw [HHAS.out]
        have HT3 := hid_mk T3
        have hb3 := hb.trans (HT.out.moved m3 hb.size)
        clear T3 m3 HT hb
        go_wp2_with fail
        refine (hins_any w.heap.size p (delD (fullD j) (b + 1)) j F' zR _ HT3.out hb3.size (by rw [HDL.out]; omega) (by omega) (by omega)).mono ?_
        rintro e w4 ⟨rfl, F4, T4, m4⟩
        have HT4 := hid_mk T4
        have hb4 := hb3.trans (HT3.out.moved m4 hb3.size)
        have HLE : Hid (((delD (fullD j) (b + 1) ++ [(⟨(j : Int) + 1, zR⟩ : Dc)]).length : Nat) = j + 1) := hid_mk (by rw [List.length_append, HDL.out]; rfl)
        have hj5i : ((j + 1 : Nat) : Int) ≤ 500 := by omega
        clear T4 m4 HT3 hb3
        go_wp2_with fail
        refine (hlen_any w.heap.size p _ _ F4 _ HT4.out).mono ?_
        rintro e w5 ⟨rfl, rfl⟩
        rw [HLE.out]
        go_wp2_with fail
        go_ret
        exact ⟨ret_bool (a := !decide (b < (j : Int)) && decide ((j : Int) + 1 ≤ 500)) (by rw [decide_eq_false (by omega), decide_eq_true (by omega)]; rfl), hb4⟩

end Go.Proofs.Ytlehgmfpblifkaa
