/- The walk over TurnOnce. -/
import Derived.Test.YtjbjkkicfdaljaaActs
import Derived.Test.YtjbjkkicfdaljaaOncePure
import Derived.Test.YtjbjkkicfdaljaaMaps
namespace Go.Proofs.Ytjbjkkicfdaljaa
open Go.RowKit
set_option linter.unusedVariables false

theorem zero4 : ∀ w, (zeroValue 4).run Try.prog w = .ok (.bool false) w := fun w => by kernel_rfl

/-- The map of what was seen. -/
def seenKV (l : List Int) : KV := l.map fun x => (x, .bool true)
theorem seen_get (l : List Int) (x : Int) : kvGet (seenKV l) x = if x ∈ l then some (.bool true) else none := by
  induction l with
  | nil => rfl
  | cons y l ih =>
    show (if x == y then _ else kvGet (seenKV l) x) = _
    rw [ih]
    by_cases h : x = y
    · simp [h]
    · simp [h]
theorem seen_put (l : List Int) (x : Int) (h : x ∉ l) : kvPut (seenKV l) x (.bool true) = seenKV (l ++ [x]) := by
  rw [kvPut_new]
  · simp [seenKV]
  · rw [seen_get, if_neg h]

theorem once_walk (A : Option Addr) (n cap : Nat) (xs : List Deed) (id : Int) (w : World) (hin : InActs w A n cap xs) :
    Calls Try.prog 7 #[.slice A n cap, .int .i64 id] w fun e w' => e = .returned (.bool true) ∧ Below w.heap.size w w' := by
  obtain ⟨hxl, hnc, hcap, hoks, hA⟩ := hin
  obtain ⟨m, hmn, hm100, _, hmin⟩ := min_fact Try.prog n 100 (by omega)
  have hmc : m ≤ cap := by omega
  go_enter Try.func7, Try.ntmps7
  go_wp2_with fail
  refine (awake_any _).mono ?_
  rintro e w1 ⟨rfl, b1⟩
  go_wp2_with fail
  refine (new_any _).mono ?_
  rintro e w2 ⟨rfl, h2, b2⟩
  go_wp2_with fail
  clear hmin
  go_loopw [27] (fun i wr => ∃ j : Nat, i = .int .i64 j ∧ j ≤ m ∧ Tab w1.heap.size wr w1.heap.size (doAll (xs.take j)) ∧ Below w1.heap.size w1 wr) (fun i _ => m - (intOf i).toNat)
  case atStart => exact ⟨0, rfl, Nat.zero_le _, h2, b2⟩
  case round =>
    clear h2 b2
    obtain ⟨j, rfl, hj, ht, hb⟩ := hrel
    obtain ⟨hlen, hages⟩ := doAll_take xs j (by omega)
    by_cases hlt : j < m
    · obtain ⟨b, off, rfl, hbw, hcs⟩ := hA (by omega)
      have B0 := bthen b1 hb
      obtain ⟨d0, d1, d2, d3⟩ := acts_later B0 hbw (hcs j (by omega))
      have hok := hoks j (by omega)
      have HD := hid_mk (take_dth xs j (by omega))
      have HG := hid_mk hages
      clear hcs hA hoks hages
      go_wp2_with fail
      refine (do_any _ _ _ (dth xs j) j _ (ht.below (balloc _)) hok (by omega) (by omega) HG.out).mono ?_
      rintro e w3 ⟨rfl, h3, o3⟩
      have HS := hid_mk (doAll_snoc (xs.take j) (dth xs j))
      have hb3 := (hb.trans (balloc' hb.size)).trans (o3.below (by simp; have := hb.size; omega))
      clear ht hb HG
      go_wp2_with fail
      exact ⟨⟨j + 1, by go_num, by omega, by rw [HD.out, HS.out]; exact h3, hb3⟩, by simp [intOf]; omega⟩
    · obtain rfl : j = m := by omega
      have hl9 : (doAll (xs.take j)).length < 1000000000000 := by omega
      have hl100 : (doAll (xs.take j)).length ≤ 100 := by omega
      have hag := hages
      clear hages hlen
      have hnd := doAll_nodup (xs.take j)
      generalize doAll (xs.take j) = L at *
      go_wp2_with fail
      refine (all_any L _ _ _ ht hl9).mono ?_
      rintro e w3 ⟨v, rfl, hv, b3⟩
      have ht3 := ht.below b3
      have hb3 := bthen hb b3
      clear ht hb b3
      obtain ⟨RA, rcap, rfl, hrm, hRA, hrcs⟩ := hv.cells
      have hmm := @run_makeMap Try.prog
      have hm0 := map_new w3
      have hsz3 := hb3.size
      go_wp2_with fail
      clear hmm
      go_loopw [40] (fun i wr => ∃ q : Nat, i = .int .i64 q ∧ q ≤ (idsOf L).length ∧ MapAt wr w3.heap.size (seenKV ((idsOf L).take q)) ∧ Below w3.heap.size w3 wr) (fun i _ => (idsOf L).length - (intOf i).toNat)
      case atStart => exact ⟨0, rfl, Nat.zero_le _, hm0, balloc _⟩
      case round =>
        clear hm0
        obtain ⟨q, rfl, hq, hmap, hbq⟩ := hrel
        by_cases hlt2 : q < (idsOf L).length
        · obtain ⟨g, rfl, hg, _⟩ := hRA (by omega)
          have hcell := (hbq.cell (p := ⟨g, q, none⟩) hg).trans (hrcs q hlt2 g rfl)
          have hnew := take_new (idsOf L) hnd q hlt2
          have HT := hid_mk (take_succ_getD (idsOf L) 0 q hlt2)
          generalize (idsOf L).getD q 0 = x at *
          have hlk := run_look_plain (P := Try.prog) hmap Try.underlying40 Try.underlying2 (.bool false) (zero4 wr) x
          rw [seen_get, if_neg hnew] at hlk
          have HN := hid_mk hnew
          clear hrcs hRA hv hnew
          go_wp2_with (refine wpList_put rfl (.tmp 47) (.tmp 48) (.const (.bool true)) 40 rfl hmap Try.underlying40 Try.underlying2 x (.bool true) rfl rfl rfl ?_; intro w4 hmap4 hg4)
          exact ⟨⟨q + 1, by go_num, by omega, by rw [HT.out, ← seen_put _ _ HN.out]; exact hmap4, hbq.trans (grown_cells hg4 hmap (Nat.le_refl _))⟩, by simp [intOf]; omega⟩
        · obtain rfl : q = (idsOf L).length := by omega
          rw [List.take_length] at hmap
          obtain ⟨f1, f2, f3, f4, f5, f6, f7⟩ := once_facts L id hnd
          have ht4 := ht3.below hbq
          have hb4 := bthen hb3 hbq
          have hsz4 := hb4.size
          have hlA : (dropL L id).length < 1000000000000 := by have := dropL_length L id; omega
          have hlB : (dropL L id ++ [(⟨id, true, 0⟩ : One)]).length < 1000000000000 := by have := dropL_length L id; simp; omega
          have hlC : (setL (dropL L id ++ [(⟨id, true, 0⟩ : One)]) id false).length < 1000000000000 := by rw [setL_length]; exact hlB
          have hlD : (dropL (setL (dropL L id ++ [(⟨id, true, 0⟩ : One)]) id false) id).length < 1000000000000 := by have := dropL_length (setL (dropL L id ++ [(⟨id, true, 0⟩ : One)]) id false) id; omega
          have cA := fun W h => add_any (dropL L id) w1.heap.size w1.heap.size id true W h hlA
          rw [f1, f2] at cA
          have cB := fun W h => add_any (dropL L id ++ [⟨id, true, 0⟩]) w1.heap.size w1.heap.size id false W h hlB
          rw [f3, f4] at cB
          have cC := fun W h => all_any (dropL L id ++ [⟨id, true, 0⟩]) w1.heap.size w1.heap.size W h hlB
          rw [f7] at cC
          have cD := fun W h => set_any (dropL L id ++ [⟨id, true, 0⟩]) w1.heap.size w1.heap.size id false W h hlB
          rw [f3] at cD
          have cE := fun W h => drop_any (setL (dropL L id ++ [⟨id, true, 0⟩]) id false) w1.heap.size w1.heap.size id W h hlC
          rw [f5] at cE
          have cF := fun W h => set_any (dropL (setL (dropL L id ++ [⟨id, true, 0⟩]) id false) id) w1.heap.size w1.heap.size id true W h hlD
          rw [f6] at cF
          have CA := hid_mk cA; have CB := hid_mk cB; have CC := hid_mk cC; have CD := hid_mk cD; have CE := hid_mk cE; have CF := hid_mk cF
          have hsg := seen_get (idsOf L) id
          have hlast : ((idsOf L).erase id ++ [id]).getD (((idsOf L).erase id ++ [id]).length - 1) 0 = id := by
            rw [List.length_append, List.getD_eq_getElem?_getD, List.getElem?_append_right (by simp)]
            simp
          have hpos : 0 < ((idsOf L).erase id ++ [id]).length := by simp
          have hhas : hasId L id = decide (id ∈ idsOf L) := by
            by_cases h : id ∈ idsOf L
            · rw [(hasId_ids L id).2 h]; simp [h]
            · rw [(hasId_not L id).2 h]; simp [h]
          clear f1 f2 f3 f4 f5 f6 f7 cA cB cC cD cE cF hlA hlB hlC hlD ht3 hb3 hbq hRA hrcs hv hnd
          have HSG := hid_mk hsg
          have HL := hid_mk hlast
          have HH := hid_mk hhas
          clear hsg hlast hhas
          go_wp2_with fail
          refine (drop_any L _ _ _ _ ht4 hl9).mono ?_
          rintro e w5 ⟨rfl, h5, o5⟩
          go_wp2_with fail
          refine (CA.out _ h5).mono ?_
          rintro e w6 ⟨rfl, h6, o6⟩
          go_wp2_with fail
          refine (CB.out _ h6).mono ?_
          rintro e w7 ⟨rfl, h7, o7⟩
          go_wp2_with fail
          refine (CC.out _ h7).mono ?_
          rintro e w8 ⟨v8, rfl, hv8, b8⟩
          have h8 := h7.below b8
          have o58 := (((o5.trans o6).trans o7).trans (.of_below b8))
          have hmap8 := hmap.only o58
          have hb8 := hb4.trans (o58.below hsz4)
          obtain ⟨MA, mcap, rfl, hmm, hMA, hmcs⟩ := hv8.cells
          obtain ⟨mg, rfl, hmg, _⟩ := hMA hpos
          have hcell := hmcs _ (Nat.sub_lt hpos Nat.one_pos) mg rfl
          rw [HL.out] at hcell
          generalize hM : (idsOf L).erase id ++ [id] = M at *
          clear hM hmcs hMA hv8 h5 h6 h7 o5 o6 o7 b8 o58 hmap ht4 hb4
          have hlk := run_look_plain (P := Try.prog) hmap8 Try.underlying40 Try.underlying2 (.bool false) (zero4 w8) id
          have hlk2 : (Instr.lookup 40 (.map (some w3.heap.size)) (.int .i64 id) false).run Try.prog w8 = .ok (.bool (hasId L id)) w8 := by
            rw [hlk, HSG.out, HH.out]
            by_cases h : id ∈ idsOf L
            · simp [h]
            · simp [h]
          clear hlk
          have hq : (hasId L id == hasId L id) = true := by simp
          go_wp2_with fail
          refine (CD.out _ h8).mono ?_
          rintro e w9 ⟨rfl, h9, o9⟩
          go_wp2_with fail
          refine (CE.out _ h9).mono ?_
          rintro e w10 ⟨rfl, h10, o10⟩
          go_wp2_with fail
          refine (CF.out _ h10).mono ?_
          rintro e w11 ⟨rfl, h11, o11⟩
          go_wp2_with fail
          go_ret
          exact ⟨rfl, bthen b1 (hb8.trans (((o9.trans o10).trans o11).below hb8.size))⟩

theorem once_law (A : Option Addr) (n cap : Nat) (xs : List Deed) (id : Int) (w : World) (hin : InActs w A n cap xs) (_ : (Lit.int .i64 id).wf = true) :
    Calls Try.prog 7 #[.slice A n cap, .int .i64 id] w fun e w' => e = .returned (.bool true) ∧ Below w.heap.size w w' :=
  once_walk A n cap xs id w hin

end Go.Proofs.Ytjbjkkicfdaljaa
