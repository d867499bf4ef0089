/- The walk over TurnRuns. -/
import Derived.Test.YtjbjkkicfdaljaaActs
namespace Go.Proofs.Ytjbjkkicfdaljaa
open Go.RowKit
set_option linter.unusedVariables false

theorem runs_walk (A : Option Addr) (n cap : Nat) (xs : List Deed) (k : Int) (w : World) (hin : InActs w A n cap xs) :
    Calls Try.prog 6 #[.slice A n cap, .int .i64 k] w fun e w' => e = .returned (.bool true) ∧ Below w.heap.size w w' := by
  obtain ⟨hxl, hnc, hcap, hoks, hA⟩ := hin
  obtain ⟨m, hmn, hm100, _, hmin⟩ := min_fact Try.prog n 100 (by omega)
  have hmc : m ≤ cap := by omega
  go_enter Try.func6, Try.ntmps6
  go_wp2_with fail
  refine (awake_any _).mono ?_
  rintro e w1 ⟨rfl, b1⟩
  go_wp2_with fail
  refine (new_any _).mono ?_
  rintro e w2 ⟨rfl, h2, b2⟩
  go_wp2_with fail
  clear hmin
  go_loopw [25] (fun i wr => ∃ j : Nat, i = .int .i64 j ∧ j ≤ m ∧ Tab w1.heap.size wr w1.heap.size (doAll (xs.take j)) ∧ Below w1.heap.size w1 wr) (fun i _ => m - (intOf i).toNat)
  case atStart => exact ⟨0, rfl, Nat.zero_le _, h2, b2⟩
  case round =>
    clear h2 b2
    obtain ⟨j, rfl, hj, ht, hb⟩ := hrel
    obtain ⟨hlen, hages⟩ := doAll_take xs j (by omega)
    by_cases hlt : j < m
    · obtain ⟨b, off, rfl, hbw, hcs⟩ := hA (by omega)
      have B0 := bthen b1 hb
      obtain ⟨d0, d1, d2, d3⟩ := acts_later B0 hbw (hcs j (by omega))
      have hok := hoks j (by omega)
      have HD := hid_mk (take_dth xs j (by omega))
      have HG := hid_mk hages
      clear hcs hA hoks hages
      go_wp2_with fail
      refine (do_any _ _ _ (dth xs j) j _ (ht.below (balloc _)) hok (by omega) (by omega) HG.out).mono ?_
      rintro e w3 ⟨rfl, h3, o3⟩
      have HS := hid_mk (doAll_snoc (xs.take j) (dth xs j))
      have hb3 := (hb.trans (balloc' hb.size)).trans (o3.below (by simp; have := hb.size; omega))
      clear ht hb HG
      go_wp2_with fail
      exact ⟨⟨j + 1, by go_num, by omega, by rw [HD.out, HS.out]; exact h3, hb3⟩, by simp [intOf]; omega⟩
    · obtain rfl : j = m := by omega
      have hl9 : (doAll (xs.take j)).length < 1000000000000 := by omega
      have hag := hages
      clear hages hlen
      generalize doAll (xs.take j) = L at *
      go_wp2_with fail
      refine (runs_any L _ _ _ ht hl9).mono ?_
      rintro e w3 ⟨v, rfl, hv, b3⟩
      have ht3 := ht.below b3
      have hb3 := bthen hb b3
      clear ht hb b3
      obtain ⟨RA, rcap, rfl, hrm, hRA, hrcs⟩ := hv.cells
      by_cases hp : (plc L).length = 0
      · have hr0 : (runsOf L).length = 0 := by rw [runsOf_length]; exact hp
        go_wp2_with fail
        refine (pick_none L _ _ _ _ ht3 hl9 hp).mono ?_
        rintro e w4 ⟨rfl, b4⟩
        have ht4 := ht3.below b4
        have hb4 := bthen hb3 b4
        go_wp2_with fail
        go_loop [11, 43] (fun y i => y = .bool false ∧ i = .int .i64 0) (fun _ _ => 0)
        case atStart => exact ⟨rfl, rfl⟩
        case round =>
          obtain ⟨rfl, rfl⟩ := hrel
          go_wp2_with fail
          refine (runs_any L _ _ _ ht4 hl9).mono ?_
          rintro e w5 ⟨v5, rfl, hv5, b5⟩
          have hv2 : Ids wr.heap.size w5 (.slice RA 0 rcap) (runsOf L) := by
            have := ownsRow_below (ownsRow_below hv b4) b5
            rw [hr0] at this
            unfold Ids
            rw [hr0]
            exact this
          go_wp2_with fail
          refine (same_true (runsOf L) _ _ _ _ _ hv5 hv2).mono ?_
          rintro e w6 ⟨rfl, b6⟩
          go_wp2_with fail
          go_ret
          exact ⟨rfl, bthen b1 (bthen hb4 (bthen b5 b6))⟩
      · have hpos : 0 < (runsOf L).length := by rw [runsOf_length]; omega
        go_wp2_with fail
        refine (pick_some L _ _ k j _ ht3 hl9 (by omega) (by omega) hag).mono ?_
        rintro e w4 ⟨rfl, ht4, o4⟩
        have HI := hid_mk (pick_in_runs L k hp)
        have HR := hid_mk (runsOf_pickL L k)
        have hl4 : (pickL L k).length < 1000000000000 := by rw [pickL_length]; exact hl9
        have hv4 := o4.owns hv (by decide)
        have hb4 := hb3.trans (o4.below hb3.size)
        clear ht3 hb3 hp hRA hrcs hv
        generalize pickL L k = L' at *
        generalize (ith L (pickK L k)).id = x at *
        generalize runsOf L = R at *
        go_wp2_with fail
        go_loop [11, 43] (fun y i => ∃ q : Nat, i = .int .i64 q ∧ q ≤ R.length ∧ y = .bool (inTo R x q)) (fun _ i => R.length - (intOf i).toNat)
        case atStart => exact ⟨0, rfl, Nat.zero_le _, rfl⟩
        case round =>
          obtain ⟨q, rfl, hq, rfl⟩ := hrel
          by_cases hlt : q < R.length
          · obtain ⟨A4, c4, he4, _, hg4, hc4⟩ := Ids.cells hv4
            obtain ⟨g, hAg, hg, _⟩ := hg4 (by omega)
            have hcell := hc4 q hlt g hAg
            rw [hAg] at he4
            have eRA : RA = some ⟨g, 0, none⟩ := by injection he4
            subst eRA
            have HS := hid_mk (inTo_succ R x q hlt)
            generalize R.getD q 0 = y at *
            clear hg4 hc4 he4 hAg HI hv4
            cases hin : inTo R x q
            · have HI2 := hid_mk hin
              clear hin
              cases hyx : (y == x)
              · have HY := hid_mk hyx
                go_wp2_with fail
                exact ⟨⟨q + 1, by go_num, by omega, by rw [HS.out, HI2.out, HY.out]; rfl⟩, by simp [intOf]; omega⟩
              · have HY := hid_mk hyx
                go_wp2_with fail
                exact ⟨⟨q + 1, by go_num, by omega, by rw [HS.out, HI2.out, HY.out]; rfl⟩, by simp [intOf]; omega⟩
            · have HI2 := hid_mk hin
              clear hin
              go_wp2_with fail
              exact ⟨⟨q + 1, by go_num, by omega, by rw [HS.out, HI2.out]; rfl⟩, by simp [intOf]; omega⟩
          · obtain rfl : q = R.length := by omega
            have hin := inTo_all R x HI.out
            go_wp2_with fail
            refine (runs_any L' _ _ _ ht4 hl4).mono ?_
            rintro e w5 ⟨v5, rfl, hv5, b5⟩
            rw [HR.out] at hv5
            have hv2 := ownsRow_below hv4 b5
            go_wp2_with fail
            refine (same_true R _ _ _ _ _ hv5 hv2).mono ?_
            rintro e w6 ⟨rfl, b6⟩
            go_wp2_with fail
            go_ret
            exact ⟨rfl, bthen b1 (bthen hb4 (bthen b5 b6))⟩

theorem runs_law (A : Option Addr) (n cap : Nat) (xs : List Deed) (k : Int) (w : World) (hin : InActs w A n cap xs) (_ : (Lit.int .i64 k).wf = true) :
    Calls Try.prog 6 #[.slice A n cap, .int .i64 k] w fun e w' => e = .returned (.bool true) ∧ Below w.heap.size w w' :=
  runs_walk A n cap xs k w hin

end Go.Proofs.Ytjbjkkicfdaljaa
