/- The walk over the law SideDrains. -/
import Derived.Test.YtaoamkkgiiiejaaSidePure
import Derived.Test.YtaoamkkgiiiejaaTreeZb
namespace Go.Proofs.Ytaoamkkgiiiejaa
open Go.RowKit
set_option linter.unusedVariables false
attribute [local go_sem ↓] Go.wp_at_zero Go.wp_at_succ

theorem with_did (L : List E) (x : A8) : withL (decide (x.kind < 140)) x.ent L = did L (dOf x) := rfl

set_option maxHeartbeats 8000000 in
set_option maxRecDepth 100000 in
theorem sidedrains_walk (A : Option Addr) (n cap : Nat) (xs : List A8) (A' : Option Addr) (n' cap' : Nat) (zs : List Int) (w : World) (hin : InA8 w A n cap xs) (hin' : InInts .i64 w A' n' cap' zs) :
    Calls Try.prog 5 #[.slice A n cap, .slice A' n' cap'] w fun r w' => r = .returned (.bool true) ∧ Below w.heap.size w w' := by
  have HIN := hid_mk hin
  obtain ⟨hxl, hnc, hcap, hoks, hA⟩ := hin
  obtain ⟨hzl, hnc', hcap', hA'⟩ := hin'
  obtain ⟨m, hmn, hm80, hmm, hmin⟩ := min_fact Try.prog n 80 (by omega)
  obtain ⟨ms, hmn', hm40, _, hmin'⟩ := min_fact Try.prog n' 40 (by omega)
  have hmc : m ≤ cap := by omega
  have hmc' : ms ≤ cap' := by omega
  have HM := hid_mk (min_80 n m hmn hm80 hmm)
  obtain ⟨Ds, hDs⟩ : ∃ Ds, Ds = dsOf xs m := ⟨_, rfl⟩
  have HDL : Hid (Ds.length = m) := hid_mk (by rw [hDs]; exact dsOf_length xs m (by omega))
  have HDG : Hid (∀ i, i < m → gd Ds i = dOf (a8 xs i)) := hid_mk (fun i hi => by
    have h9 : i < Ds.length := by rw [hDs, dsOf_length xs m (by omega)]; exact hi
    rw [gd_get Ds i h9, a8_get xs i (by omega)]
    simp only [hDs, dsOf, List.getElem_map, List.getElem_take])
  have HDS := hid_mk hDs
  have HOKS := hid_mk hoks
  have HA := hid_mk hA
  have HA' := hid_mk hA'
  clear hxl hzl hmm hDs hoks hA hA'
  go_enter Try.func5, Try.ntmps5
  go_wp2_with fail
  refine (sawake_any _).mono ?_
  rintro r w1 ⟨rfl, b1⟩
  have hs1 := b1.size
  have I1 := hid_mk (HIN.out.below b1)
  go_wp2_with fail
  refine (filled_any A n cap xs _ I1.out).mono ?_
  rintro r w2 ⟨p, q, F, rfl, P2, b2⟩
  rw [HM.out, ← HDS.out] at P2
  have HP2 : Hid (Pr w1.heap.size w2 p q (Ds.drop 0) (dids [] (Ds.take 0)) F) := hid_mk P2
  have hb2 := bthen b1 b2
  clear P2 b1 b2 I1 HIN
  go_wp2_with fail
  clear hmin hmin'
  go_loopw [7, 8, 34] (fun lv av iv wr => ∃ (j c : Nat) (F : Nat → Prop), iv = .int .i64 j ∧ j ≤ ms ∧ av = .int .i64 c ∧ c ≤ m ∧ Hid (Pr w1.heap.size wr p q (Ds.drop c) (dids [] (Ds.take c)) F) ∧
    Hid (Rw w1.heap.size wr 36 2 lv (dids [] (Ds.take c)).length (ecells (dids [] (Ds.take c)))) ∧ Hid (Apart lv F) ∧ Below w.heap.size w wr) (fun _ _ iv _ => ms - (intOf iv).toNat)
  case atStart => exact ⟨0, 0, F, rfl, Nat.zero_le _, rfl, Nat.zero_le _, HP2, Rw.nil _ _ _ _, fun k h => by simp [Value.ownBlock] at h, hb2⟩
  case round =>
    clear HP2 hb2
    obtain ⟨j, c, F, rfl, hj, rfl, hc, HP, R, HAP, hb⟩ := hrel
    obtain ⟨Al, cl, rfl, hlc, hlm, _, _⟩ := R.out.shape
    by_cases hlt : j < ms
    · obtain ⟨b, off, rfl, hbw, hcs⟩ := HA'.out (by omega)
      have c0 := keep_cell hb (hcs j (by omega))
      obtain ⟨x, hx⟩ : ∃ x, x = zs.getD j 0 := ⟨_, rfl⟩
      rw [← hx] at c0
      obtain ⟨N, M, hN, hmax2, hmin2⟩ := maxmin_fact Try.prog (x.tmod 9) (m - c)
      have hNk : N ≤ m - c := by rw [hN]; exact Nat.min_le_right _ _
      have HN := hid_mk hN
      have hsub : (m : Int) - (c : Int) = ((m - c : Nat) : Int) := by omega
      clear hcs hx hN
      go_wp2_with fail
      have HDr : Hid ((Ds.drop c).length = m - c) := hid_mk (by rw [List.length_drop, HDL.out])
      have HSR := hid_mk HP.out.srt
      have hle := dids_le (Ds.take c) (L := []) List.Pairwise.nil
      have hlt9 : (Ds.take c).length ≤ m := by rw [List.length_take, HDL.out]; omega
      simp only [List.length_nil, Nat.zero_add] at hle
      refine (drain_any w1.heap.size p q _ _ F (x.tmod 9) _ HP.out (by have := HDr.out; omega) (by omega)).mono ?_
      rintro r w3 ⟨rfl, F3, P3, m3⟩
      rw [HDr.out, ← HN.out] at P3 ⊢
      rw [List.drop_drop, ← dids_append, ← List.take_add] at P3
      have HP3 := hid_mk P3
      have R3 := hid_mk (m3.rw_ R.out HAP.out)
      have AP3 := hid_mk (HAP.out.moved m3 fun i hi => (R.out.lt i hi).2)
      have hb3 := hb.trans ((HP.out.moved m3).mono hs1)
      have hcN : c + N ≤ m := by omega
      clear P3 m3 HP R HAP hb c0 HDr hle hlt9
      obtain ⟨K, hK⟩ : ∃ K, K = (dids [] (Ds.take c)).length := ⟨_, rfl⟩
      rw [← hK] at R3 AP3 ⊢
      have R3' : Hid (Rw w1.heap.size w3 36 2 (.slice Al K cl) (dids [] (Ds.take (c + 0))).length (ecells (dids [] (Ds.take (c + 0))))) := hid_mk (by rw [Nat.add_zero, ← hK]; exact R3.out)
      clear hK R3
      have hcm : (c : Int) ≤ (m : Int) := by omega
      have hcN1 : (c : Int) + (N : Int) ≤ (m : Int) := by omega
      have hcN2 : (c : Int) ≤ (c : Int) + (N : Int) := by omega
      have hcN3 : ((c : Int) + (N : Int)).toNat = c + N := by omega
      have hcN4 : (c : Int) + (N : Int) ≤ (cap : Int) := by omega
      have hcN5 : (0 : Int) ≤ (c : Int) + (N : Int) := by omega
      have hcc : (c : Int) ≤ (cap : Int) := by omega
      have hNs : c + N - c = N := by omega
      go_upto_region 15 with fail
      go_cut [58, 59, 60] (fun s58 s59 s60 wx => ∃ (As : Option Addr) (cp : Nat), s58 = .slice As N cp ∧ s59 = .int .i64 N ∧ s60 = .int .i64 0 ∧ wx = w3 ∧ Hid (∀ i, i < N → ∃ g o, As = some ⟨g, o, none⟩ ∧ w.cell? ⟨g, o + i * 3, none⟩ = some (.int .u8 (a8 xs (c + i)).kind) ∧ w.cell? ⟨g, o + i * 3 + 1, none⟩ = some (.int .u8 (a8 xs (c + i)).key) ∧ w.cell? ⟨g, o + i * 3 + 2, none⟩ = some (.int .u8 (a8 xs (c + i)).id)))
      case first =>
        rcases A with _ | a
        · have HE : Hid (∀ i, i < N → ∃ g o, (none : Option Addr) = some ⟨g, o, none⟩ ∧ w.cell? ⟨g, o + i * 3, none⟩ = some (.int .u8 (a8 xs (c + i)).kind) ∧ w.cell? ⟨g, o + i * 3 + 1, none⟩ = some (.int .u8 (a8 xs (c + i)).key) ∧ w.cell? ⟨g, o + i * 3 + 2, none⟩ = some (.int .u8 (a8 xs (c + i)).id)) := hid_mk fun i hi => by
            obtain ⟨_, _, h9, _⟩ := HA.out (by omega)
            cases h9
          go_wp2_with fail
          go_meet
          case rel => exact ⟨none, _, rfl, rfl, rfl, rfl, HE⟩
        · by_cases hcap9 : cap = c
          · have HE : Hid (∀ i, i < N → ∃ g o, (some a : Option Addr) = some ⟨g, o, none⟩ ∧ w.cell? ⟨g, o + i * 3, none⟩ = some (.int .u8 (a8 xs (c + i)).kind) ∧ w.cell? ⟨g, o + i * 3 + 1, none⟩ = some (.int .u8 (a8 xs (c + i)).key) ∧ w.cell? ⟨g, o + i * 3 + 2, none⟩ = some (.int .u8 (a8 xs (c + i)).id)) := hid_mk fun i hi => by omega
            go_wp2_with fail
            go_meet
            case rel => exact ⟨some a, _, rfl, rfl, rfl, rfl, HE⟩
          · have HE : Hid (∀ i, i < N → ∃ g o, (some (a.add (c * 3)) : Option Addr) = some ⟨g, o, none⟩ ∧ w.cell? ⟨g, o + i * 3, none⟩ = some (.int .u8 (a8 xs (c + i)).kind) ∧ w.cell? ⟨g, o + i * 3 + 1, none⟩ = some (.int .u8 (a8 xs (c + i)).key) ∧ w.cell? ⟨g, o + i * 3 + 2, none⟩ = some (.int .u8 (a8 xs (c + i)).id)) := hid_mk fun i hi => by
              obtain ⟨b0, o0, h9, _, hcs⟩ := HA.out (by omega)
              injection h9 with h9
              subst h9
              obtain ⟨d0, d1, d2⟩ := hcs (c + i) (by omega)
              refine ⟨b0, o0 + c * 3, by rw [Addr.add_lit], ?_⟩
              rw [Nat.add_mul, ← Nat.add_assoc] at d0 d1 d2
              exact ⟨d0, d1, d2⟩
            go_wp2_with fail
            go_meet
            case rel => exact ⟨some (a.add (c * 3)), _, rfl, rfl, rfl, rfl, HE⟩
      case rest =>
        obtain ⟨As, cp, rfl, rfl, rfl, rfl, HE⟩ := hcut
        clear hcm hcN1 hcN2 hcN3 hcN4 hcc hNs hcN5
        go_wp2_with fail
        go_loopw [7, 60] (fun lv iv wy => ∃ i : Nat, iv = .int .i64 i ∧ i ≤ N ∧ Hid (Pr w1.heap.size wy p q (Ds.drop (c + N)) (dids [] (Ds.take (c + N))) F3) ∧ Hid (Rw w1.heap.size wy 36 2 lv (dids [] (Ds.take (c + i))).length (ecells (dids [] (Ds.take (c + i))))) ∧ Hid (Apart lv F3) ∧ Below w.heap.size w wy) (fun _ iv _ => N - (intOf iv).toNat)
        case atStart => exact ⟨0, rfl, Nat.zero_le _, HP3, R3', AP3, hb3⟩
        case round =>
          clear HP3 R3' AP3 hb3
          obtain ⟨i, rfl, hi, HP, R, HAP, hb⟩ := hrel
          obtain ⟨Ai, ci, rfl, hli, hci, _, _⟩ := R.out.shape
          have hle := dids_le (Ds.take (c + i)) (L := []) List.Pairwise.nil
          have hlt9 : (Ds.take (c + i)).length ≤ m := by rw [List.length_take, HDL.out]; omega
          simp only [List.length_nil, Nat.zero_add] at hle
          by_cases hiN : i < N
          · obtain ⟨g9, o9, rfl, d0, d1, d2⟩ := HE.out i hiN
            obtain ⟨x, hx⟩ : ∃ x, x = a8 xs (c + i) := ⟨_, rfl⟩
            rw [← hx] at d0 d1 d2
            have d0' := keep_cell hb d0
            have d1' := keep_cell hb d1
            have d2' := keep_cell hb d2
            have HO := hid_mk (HOKS.out (c + i) (by omega))
            rw [← hx] at HO
            have HNX : Hid (dids [] (Ds.take (c + (i + 1))) = did (dids [] (Ds.take (c + i))) (dOf x)) := hid_mk (by
              rw [← Nat.add_assoc, dids_take [] Ds (c + i) (by have := HDL.out; omega), HDG.out (c + i) (by omega), hx])
            have HSR := hid_mk (srt_dids (Ds.take (c + i)) (L := []) List.Pairwise.nil)
            obtain ⟨L1, hL1⟩ : ∃ L1, L1 = dids [] (Ds.take (c + i)) := ⟨_, rfl⟩
            rw [← hL1] at R HNX HSR hle HAP hli ⊢
            have bb : Below wr.heap.size wr (wr.alloc (.cells #[.int .u8 x.kind, .int .u8 x.key, .int .u8 x.id] 33)).drew := pw_below (n := 1) (balloc _)
            have PD := hid_mk (HP.out.below bb)
            have RD := hid_mk (R.out.below bb)
            have hbD := hb.trans (bb.mono hb.size)
            have HFL : Hid (∀ j, F3 j → j < wr.heap.size) := hid_mk fun j hj => (HP.out.foot j hj).2
            have Y := heap_alloc_new wr (.cells #[.int .u8 x.kind, .int .u8 x.key, .int .u8 x.id] 33)
            have y0 : (wr.alloc (.cells #[.int .u8 x.kind, .int .u8 x.key, .int .u8 x.id] 33)).drew.cell? ⟨wr.heap.size, 0, none⟩ = some (.int .u8 x.kind) := (cell_of_row _ _ 0 _ _ _ Y).trans rfl
            have y1 : (wr.alloc (.cells #[.int .u8 x.kind, .int .u8 x.key, .int .u8 x.id] 33)).drew.cell? ⟨wr.heap.size, 1, none⟩ = some (.int .u8 x.key) := (cell_of_row _ _ 1 _ _ _ Y).trans rfl
            have y2 : (wr.alloc (.cells #[.int .u8 x.kind, .int .u8 x.key, .int .u8 x.id] 33)).drew.cell? ⟨wr.heap.size, 2, none⟩ = some (.int .u8 x.id) := (cell_of_row _ _ 2 _ _ _ Y).trans rfl
            have hsz : wr.heap.size < (wr.alloc (.cells #[.int .u8 x.kind, .int .u8 x.key, .int .u8 x.id] 33)).drew.heap.size := by show _ < (wr.alloc _).heap.size; simp
            have hL1k : L1.length < 3000 := by omega
            have hbase := HP.out.size
            clear d0 d1 d2 hx hL1 bb Y HP R hb hle hlt9
            go_wp2_with fail
            go_region_held3 (fun w' => w'.cell? ⟨wr.heap.size, 0, none⟩ = some (.int .u8 x.kind) ∧ w'.cell? ⟨wr.heap.size, 1, none⟩ = some (.int .u8 x.key) ∧ w'.cell? ⟨wr.heap.size, 2, none⟩ = some (.int .u8 x.id))
              ((first | go_keep | exact ⟨K0, K1, K2⟩ | exact ⟨J0, J1, J2⟩))
              ((first
                | (go_at_call 14; refine (entry_any x _ HO.out).mono ?_; rintro r w4 ⟨rfl, b4⟩; have P4 := hid_mk (PD.out.below b4); have R4 := hid_mk (RD.out.below b4); have hb4 := hbD.trans (b4.mono hbD.size); have K0 := keep_cell b4 y0; have K1 := keep_cell b4 y1; have K2 := keep_cell b4 y2)
                | (go_at_call 17; refine (with_any w1.heap.size L1 _ x.ent _ _ R4.out HSR.out hL1k).mono ?_; rintro r w5 ⟨u, rfl, R5, b5⟩; obtain ⟨A5, c5, rfl, _, _, _, _⟩ := R5.shape; have J0 := keep_cell b5 K0; have J1 := keep_cell b5 K1; have J2 := keep_cell b5 K2)))
            have hs4 := b4.size
            have P5 := hid_mk (P4.out.below b5)
            have hb5 := hb4.trans (b5.mono hb4.size)
            rw [with_did] at R5
            have R5' := hid_mk (R5.base (show w1.heap.size ≤ w4.heap.size by have := hbD.size; have := PD.out.size; omega))
            have AP5 : Hid (Apart (Value.slice A5 (did L1 (dOf x)).length c5) F3) := hid_mk fun j hj hf => by
              have h1 := (R5.lt j hj).1
              have h2 := HFL.out j hf
              omega
            rw [← HNX.out] at R5' AP5
            clear J0 J1 J2 K0 K1 K2 R5 b5 P4 R4 PD RD hbD hb4 y0 y1 y2 d0' d1' d2' b4 HAP
            go_wp2_with fail
            exact ⟨⟨i + 1, by go_num, by omega, P5, hid_mk (by rw [HNX.out] at R5' ⊢; exact R5'.out), hid_mk (by rw [HNX.out] at AP5; exact AP5.out), hb5⟩, by simp [intOf]; omega⟩
          · obtain rfl : i = N := by omega
            have HDr : Hid ((Ds.drop (c + i)).length = m - (c + i)) := hid_mk (by rw [List.length_drop, HDL.out])
            have hsub2 : (m : Int) - ((c : Int) + (i : Int)) = ((m - (c + i) : Nat) : Int) := by omega
            obtain ⟨F2, T2⟩ := HP.out.tree
            have HT2 := hid_mk T2
            obtain ⟨L1, hL1⟩ : ∃ L1, L1 = dids [] (Ds.take (c + i)) := ⟨_, rfl⟩
            rw [← hL1] at HT2 R hle hli
            have HL1 := hid_mk hL1
            rw [← hL1]
            clear T2 hL1 hiN
            go_wp2_with fail
            refine (prlen_any w1.heap.size p q _ _ F3 _ HP.out).mono ?_
            rintro r w4 ⟨rfl, rfl⟩
            rw [HDr.out]
            go_wp2_with fail
            refine (all_any w1.heap.size q L1 F2 _ HT2.out (by omega)).mono ?_
            rintro r w5 ⟨v5, rfl, R5, b5⟩
            have R6 := hid_mk (R.out.below b5)
            have P6 := hid_mk (HP.out.below b5)
            have HR5 := hid_mk R5
            have hb5 := hb.trans (b5.mono hb.size)
            clear R5 b5 R HP hb HT2
            go_wp2_with fail
            refine (same_true L1 _ _ v5 _ _ HR5.out R6.out).mono ?_
            rintro r w7 ⟨rfl, b7⟩
            have R7 := hid_mk (R6.out.below b7)
            have P7 := hid_mk (P6.out.below b7)
            have hb7 := hb5.trans (b7.mono hb5.size)
            clear b7 R6 P6 HR5 hb5
            go_wp2_with fail
            exact ⟨⟨j + 1, c + i, F3, by go_num, by omega, by go_num, by omega, P7, hid_mk (by rw [← HL1.out]; exact R7.out), hid_mk (by have h9 := HAP.out; rw [← HL1.out] at h9; exact h9), hb7⟩, by simp [intOf]; omega⟩
    · obtain rfl : j = ms := by omega
      go_wp2_with fail
      go_ret
      exact ⟨rfl, hb⟩

end Go.Proofs.Ytaoamkkgiiiejaa
