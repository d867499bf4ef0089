/- The walk over TurnFree. -/
import Derived.Test.YtjbjkkicfdaljaaFair
namespace Go.Proofs.Ytjbjkkicfdaljaa
open Go.RowKit
set_option linter.unusedVariables false

theorem free_walk (A : Option Addr) (n cap : Nat) (zs : List Int) (many : Int) (w : World) (hm0 : 0 ≤ many) (hm1 : many ≤ 255) (hin : InInts .i64 w A n cap zs) :
    Calls Try.prog 4 #[.int .u8 many, .slice A n cap] w fun e w' => e = .returned (.bool true) ∧ Below w.heap.size w w' := by
  obtain ⟨hzl, hnc, hcap, hA⟩ := hin
  obtain ⟨N, hN⟩ : ∃ N : Nat, 1 + many % 12 = (N : Int) := ⟨(1 + many % 12).toNat, by omega⟩
  have hN1 : 1 ≤ N := by omega
  have hN2 : N ≤ 12 := by omega
  go_enter Try.func4, Try.ntmps4
  go_wp2_with fail
  refine (awake_any _).mono ?_
  rintro e w1 ⟨rfl, b1⟩
  go_wp2_with fail
  refine (new_any _).mono ?_
  rintro e w2 ⟨rfl, h2, b2⟩
  go_wp2_with fail
  clear hN
  go_loopw [7] (fun i wr => ∃ k : Nat, i = .int .i64 k ∧ k ≤ N ∧ Tab w1.heap.size wr w1.heap.size (lst k) ∧ Below w1.heap.size w1 wr) (fun i _ => N - (intOf i).toNat)
  case atStart => exact ⟨0, rfl, Nat.zero_le _, h2, b2⟩
  case round =>
    obtain ⟨k, rfl, hk, ht, hb⟩ := hrel
    by_cases hlt : k < N
    · go_wp2_with fail
      refine (add_any _ _ _ _ _ _ ht (by rw [lst_length]; omega)).mono ?_
      rintro e w3 ⟨rfl, h3, o3⟩
      have HA := hid_mk (addL_lst k)
      go_wp2_with fail
      refine ⟨⟨k + 1, by go_num, by omega, by rw [← HA.out]; exact h3, hb.trans (o3.below hb.size)⟩, by simp [intOf]; omega⟩
    · obtain rfl : k = N := by omega
      obtain ⟨w3, rfl⟩ : ∃ wo : World, wo = wr := ⟨_, rfl⟩
      obtain ⟨m, hmn, hm16, _, hmin⟩ := min_fact Try.prog n 16 (by omega)
      have hb3 := hb.size
      have hmc : m ≤ cap := by omega
      go_wp2_with fail
      clear hmin
      go_loopw [35] (fun i wr => ∃ (i' : Nat) (l : List One) (last : List Int), i = .int .i64 i' ∧ i' ≤ m ∧ FairAt k i' l last ∧ Tab w1.heap.size wr w1.heap.size l ∧ Below w1.heap.size w1 wr) (fun i _ => m - (intOf i).toNat)
      case atStart => exact ⟨0, _, _, rfl, Nat.zero_le _, fair_at_start k, ht, hb⟩
      case round =>
        clear ht hb
        obtain ⟨i, l, last, rfl, hi, hF, ht, hb⟩ := hrel
        by_cases hlt2 : i < m
        · obtain ⟨b, off, rfl, hbw, hcs⟩ := hA (by omega)
          have B0 := bthen b1 hb
          have hp := (B0.cell (p := ⟨b, off + i, none⟩) hbw).trans (hcs i (by omega))
          obtain ⟨p, hpe⟩ : ∃ p, p = zs.getD i 0 := ⟨_, rfl⟩
          rw [← hpe] at hp
          have hllen := hF.len
          have hlr : 0 < (plc l).length := by rw [plc_all l hF.all]; simp; omega
          obtain ⟨hF2, hq, hqe⟩ := fair_at_step (by omega) hF p
          have hqid : (ith l (pickK l p)).id = (pickK l p : Int) := by rw [hqe]
          have hc := pick_some l w1.heap.size w1.heap.size p i wr ht (by omega) hlr (by omega) (fair_at_ages hF)
          rw [hqid] at hc
          have hpm : (pickK l p : Int) = p % (k : Int) := by
            rw [(pick_facts l hF.all (by omega) p).2.2 (fun j hj => ?_), hllen]
            have := fair_at_ages hF j hj
            omega
          have ht1 : -(k : Int) < p.tmod (k : Int) := Int.lt_tmod_of_pos p (by omega)
          have ht2 : p.tmod (k : Int) < (k : Int) := Int.tmod_lt_of_pos p (by omega)
          have hpq : (p.tmod (k : Int) + (k : Int)) % (k : Int) = (pickK l p : Int) := by
            rw [hpm, Int.tmod_eq_emod, Int.add_emod_right]
            split
            · simp
            · rw [Int.sub_emod]
              have : ((k : Int).natAbs : Int) = k := by simp
              rw [show (((k : Int).natAbs : Nat) : Int) % (k : Int) = 0 by rw [this]; simp]
              simp
          have HC := hid_mk hc
          have HF2 := hid_mk hF2
          clear hc hcs hpe hA hF hF2 hqe hqid hpm
          generalize pickK l p = q at *
          go_wp2_with fail
          refine HC.out.mono ?_
          rintro e w4 ⟨rfl, h4, o4⟩
          have hb4 := hb.trans (o4.below hb.size)
          clear ht hb HC
          go_wp2_with fail
          exact ⟨⟨i + 1, _, _, by go_num, by omega, HF2.out, h4, hb4⟩, by simp [intOf]; omega⟩
        · go_wp2_with fail
          go_ret
          exact ⟨rfl, bthen b1 hb⟩

theorem free_law (many : Int) (A : Option Addr) (n cap : Nat) (zs : List Int) (w : World) (hm : (Lit.int .u8 many).wf = true) (hin : InInts .i64 w A n cap zs) :
    Calls Try.prog 4 #[.int .u8 many, .slice A n cap] w fun e w' => e = .returned (.bool true) ∧ Below w.heap.size w w' :=
  free_walk A n cap zs many w (wf_u8 hm).1 (wf_u8 hm).2 hin

end Go.Proofs.Ytjbjkkicfdaljaa
