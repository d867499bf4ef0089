/- The walk over TurnFair. -/
import Derived.Test.YtjbjkkicfdaljaaTurnD
import Derived.Test.YtjbjkkicfdaljaaFairPure
namespace Go.Proofs.Ytjbjkkicfdaljaa
open Go.RowKit
set_option linter.unusedVariables false

theorem addL_lst (k : Nat) : addL (lst k) (k : Int) true = lst (k + 1) := by
  unfold addL
  rw [lst_new, if_neg (Nat.lt_irrefl _), lst_succ]

theorem fair_walk (A : Option Addr) (n cap : Nat) (zs : List Int) (many from_ : Int) (w : World) (hm0 : 0 ≤ many) (hm1 : many ≤ 255) (hin : InInts .i64 w A n cap zs) :
    Calls Try.prog 3 #[.int .u8 many, .slice A n cap, .int .u8 from_] w fun e w' => e = .returned (.bool true) ∧ Below w.heap.size w w' := by
  obtain ⟨hzl, hnc, hcap, hA⟩ := hin
  obtain ⟨N, hN⟩ : ∃ N : Nat, 1 + many % 12 = (N : Int) := ⟨(1 + many % 12).toNat, by omega⟩
  have hN1 : 1 ≤ N := by omega
  have hN2 : N ≤ 12 := by omega
  go_enter Try.func3, Try.ntmps3
  go_wp2_with fail
  refine (awake_any _).mono ?_
  rintro e w1 ⟨rfl, b1⟩
  go_wp2_with fail
  refine (new_any _).mono ?_
  rintro e w2 ⟨rfl, h2, b2⟩
  go_wp2_with fail
  clear hN
  go_loopw [9] (fun i wr => ∃ k : Nat, i = .int .i64 k ∧ k ≤ N ∧ Tab w1.heap.size wr w1.heap.size (lst k) ∧ Below w1.heap.size w1 wr) (fun i _ => N - (intOf i).toNat)
  case atStart => exact ⟨0, rfl, Nat.zero_le _, h2, b2⟩
  case round =>
    obtain ⟨k, rfl, hk, ht, hb⟩ := hrel
    by_cases hlt : k < N
    · go_wp2_with fail
      refine (add_any _ _ _ _ _ _ ht (by rw [lst_length]; omega)).mono ?_
      rintro e w3 ⟨rfl, h3, o3⟩
      have HA := hid_mk (addL_lst k)
      go_wp2_with fail
      refine ⟨⟨k + 1, by go_num, by omega, by rw [← HA.out]; exact h3, hb.trans (o3.below hb.size)⟩, by simp [intOf]; omega⟩
    · obtain rfl : k = N := by omega
      obtain ⟨w3, rfl⟩ : ∃ wo : World, wo = wr := ⟨_, rfl⟩
      have hmk := fun W => run_make_row' (P := Try.prog) 22 3 (.int .i64 0) 8 Try.underlying22 info3 rfl .i64 .i64 k (by omega) (by omega) W
      obtain ⟨m, hmn, hm200, _, hmin⟩ := min_fact Try.prog n 200 (by omega)
      have hb3 := hb.size
      have hmc : m ≤ cap := by omega
      go_wp2_with fail
      clear hmin hmk
      have hlast := own_made w3 w1.heap.size 3 k hb3 (by omega)
      go_loopw [42] (fun i wr => ∃ (i' : Nat) (l : List One) (last : List Int), i = .int .i64 i' ∧ i' ≤ m ∧ FairAt k i' l last ∧ Tab w1.heap.size wr w1.heap.size l ∧ wr.ownsRow w1.heap.size 3 1 (.slice (some ⟨w3.heap.size, 0, none⟩) k k) k (ints last) ∧ Below w1.heap.size w1 wr) (fun i _ => m - (intOf i).toNat)
      case atStart => exact ⟨0, _, _, rfl, Nat.zero_le _, fair_at_start k, ht.below (balloc _), hlast, hb.alloc hb3 _⟩
      case round =>
        clear hlast ht hb
        obtain ⟨i, l, last, rfl, hi, hF, ht, hl, hb⟩ := hrel
        by_cases hlt2 : i < m
        · obtain ⟨b, off, rfl, hbw, hcs⟩ := hA (by omega)
          have B0 := bthen b1 hb
          have hp := (B0.cell (p := ⟨b, off + i, none⟩) hbw).trans (hcs i (by omega))
          obtain ⟨p, hpe⟩ : ∃ p, p = zs.getD i 0 := ⟨_, rfl⟩
          rw [← hpe] at hp
          have hllen := hF.len
          have hlr : 0 < (plc l).length := by rw [plc_all l hF.all]; simp; omega
          obtain ⟨hF2, hq, hqe⟩ := fair_at_step (by omega) hF p
          have hqid : (ith l (pickK l p)).id = (pickK l p : Int) := by rw [hqe]
          have hc := pick_some l w1.heap.size w1.heap.size p i wr ht (by omega) hlr (by omega) (fair_at_ages hF)
          rw [hqid] at hc
          have HC := hid_mk hc
          have HF2 := hid_mk hF2
          have HF := hid_mk hF
          clear hc hcs hpe hA hF hF2 hqe hqid
          generalize pickK l p = q at *
          go_wp2_with fail
          refine HC.out.mono ?_
          rintro e w4 ⟨rfl, h4, o4⟩
          have hl4 := o4.owns hl (by decide)
          have hll := HF.out.llen
          have d1 := ints_at hl4 q (by omega)
          have hf1 := World.ownsRow.frozenAt hl4 q
          have HS := hid_mk (ints_store hl4 q ((i : Int) + 1))
          have hb4 := hb.trans (o4.below hb.size)
          clear hl ht hb HC
          go_wp2_with fail
          have hl5 := HS.out.1
          have o5 := HS.out.2
          have h5 := h4.only o5 (by decide) (by decide)
          have hb5 := hb4.trans (o5.below hb4.size)
          have HB := hid_mk (fair_at_bound (by omega) HF2.out)
          have HG := hid_mk HF2.out.ages
          have hll2 := HF2.out.llen
          clear HS hf1 d1 hl4 h4 o4 o5 hb4
          generalize w4.setCell ⟨w3.heap.size, q, none⟩ (.int .i64 ((i : Int) + 1)) = w5 at *
          go_loop [71] (fun x => ∃ j : Nat, x = .int .i64 j ∧ j ≤ k) (fun x => k - (intOf x).toNat)
          case atStart => exact ⟨0, rfl, Nat.zero_le _⟩
          case round =>
            obtain ⟨j, rfl, hj⟩ := hrel
            by_cases hlt3 : j < k
            · have e1 := ints_at hl5 j (by omega)
              have hbd := HB.out j hlt3
              have hag := HG.out j hlt3
              obtain ⟨x, hx⟩ : ∃ x, x = (last.set q ((i : Int) + 1)).getD j 0 := ⟨_, rfl⟩
              rw [← hx] at e1 hbd hag
              clear hx hl5 h5 hb5
              have hag2 := hag.2.1
              have hag3 := hag.2.2
              clear hag
              push_cast at hbd hag3
              go_wp2_with fail
              exact ⟨⟨j + 1, by go_num, by omega⟩, by simp [intOf]; omega⟩
            · go_wp2_with fail
              exact ⟨⟨i + 1, _, _, by go_num, by omega, HF2.out, h5, hl5, hb5⟩, by simp [intOf]; omega⟩
        · go_wp2_with fail
          go_ret
          exact ⟨rfl, bthen b1 hb⟩

theorem fair_law (many : Int) (A : Option Addr) (n cap : Nat) (zs : List Int) (from_ : Int) (w : World) (hm : (Lit.int .u8 many).wf = true) (hin : InInts .i64 w A n cap zs) (_hf : (Lit.int .u8 from_).wf = true) :
    Calls Try.prog 3 #[.int .u8 many, .slice A n cap, .int .u8 from_] w fun e w' => e = .returned (.bool true) ∧ Below w.heap.size w w' :=
  fair_walk A n cap zs many from_ w (wf_u8 hm).1 (wf_u8 hm).2 hin

end Go.Proofs.Ytjbjkkicfdaljaa
