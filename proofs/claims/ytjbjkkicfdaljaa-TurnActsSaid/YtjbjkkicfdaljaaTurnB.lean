/- The walks over package turn, continued: All, Runs, Pick. -/
import Derived.Test.YtjbjkkicfdaljaaTurnA
namespace Go.Proofs.Ytjbjkkicfdaljaa
open Go.RowKit
set_option linter.unusedVariables false

theorem all_any (l : List One) (B p : Nat) (w : World) (h : Tab B w p l) (hl : l.length < 1000000000000) :
    Calls Try.prog 17 #[.pointer (some ⟨p, 0, none⟩)] w fun e w' => ∃ v, e = .returned v ∧ Ids w.heap.size w' v (idsOf l) ∧ Below w.heap.size w w' := by
  obtain ⟨hBp, v, hp, hr⟩ := h
  obtain ⟨A, cap, rfl, hm, hA, hcs⟩ := hr.cells
  have hc := cell_of_one hp
  have hpl := lt_of_block hp
  go_enter Try.func17, Try.ntmps17
  go_wp2
  go_loopw [3, 11] (fun o i wr => ∃ k : Nat, i = .int .i64 k ∧ k ≤ l.length ∧ Ids w.heap.size wr o (idsTo l k) ∧ Below w.heap.size w wr) (fun _ i _ => l.length - (intOf i).toNat)
  case atStart => exact ⟨0, rfl, Nat.zero_le _, show World.ownsRow _ _ _ _ _ 0 [] from World.ownsRow_nil _ _ _ _, Below.refl _ _⟩
  case round =>
    obtain ⟨k, rfl, hk, hown, hb⟩ := hrel
    have hpk := idsTo_length l k
    by_cases hlt : k < l.length
    · obtain ⟨g, rfl, hg, hBg⟩ := hA (by omega)
      obtain ⟨d0, d1, d2⟩ := cells_later hb hg (hcs k hlt g rfl)
      have hsz := hb.size
      clear hcs hA hr hc
      have HP := hid_mk (idsTo_succ l k)
      have HL := hid_mk hpk
      clear hpk
      have hown2 := fun o => World.ownsRow.alloc hown o
      go_wp2_with (at_builtin; refine app_own _ rfl (.tmp 15) (.tmp 18) 36 2 (.int .i64 0) 1 8 rfl Try.underlying36 info2 rfl (by decide) w.heap.size _ (idsTo l k).length (ints (idsTo l k)) _ rfl _ rfl (by simp) rfl ?_ (hown2 _) (by simp; omega) (by rw [HL.out]; omega) (by rw [HL.out]; omega) ?_)
      · exact rfl
      · intro v' w1 hown' honly
        have R : Ids w.heap.size w1 v' (idsTo l (k + 1)) := by
          rw [HP.out]
          unfold Ids
          rw [ints_append, List.length_append]
          exact hown'
        have hB1 := (bthen hb (balloc _)).trans (honly.below (by simp; omega))
        clear hown' honly hown hown2
        go_wp2
        exact ⟨⟨k + 1, by go_num, by omega, R, hB1⟩, by simp [intOf]; omega⟩
    · obtain rfl : k = l.length := by omega
      go_wp2
      go_ret
      exact ⟨_, rfl, hown, hb⟩

theorem runs_any (l : List One) (B p : Nat) (w : World) (h : Tab B w p l) (hl : l.length < 1000000000000) :
    Calls Try.prog 15 #[.pointer (some ⟨p, 0, none⟩)] w fun e w' => ∃ v, e = .returned v ∧ Ids w.heap.size w' v (runsOf l) ∧ Below w.heap.size w w' := by
  have hpl := plc_length l
  go_enter Try.func15, Try.ntmps15
  go_wp2_with fail
  refine (places_any l B _ _ h hl).mono ?_
  rintro e w0 ⟨pv, rfl, hpv, hb0⟩
  obtain ⟨hBp, v, hp, hr⟩ := h.below hb0
  obtain ⟨A, cap, rfl, hm, hA, hcs⟩ := hr.cells
  obtain ⟨PA, pcap, rfl, hpm, hPA, hpcs⟩ := hpv.cells
  have hc := cell_of_one hp
  have hpl0 := lt_of_block hp
  have hw0 := hb0.size
  go_wp2
  go_loopw [3, 9] (fun o i wr => ∃ k : Nat, i = .int .i64 k ∧ k ≤ (plc l).length ∧ Ids w0.heap.size wr o (runsTo l k) ∧ Below w0.heap.size w0 wr) (fun _ i _ => (plc l).length - (intOf i).toNat)
  case atStart => exact ⟨0, rfl, Nat.zero_le _, show World.ownsRow _ _ _ _ _ 0 [] from World.ownsRow_nil _ _ _ _, Below.refl _ _⟩
  case round =>
    obtain ⟨k, rfl, hk, hown, hb⟩ := hrel
    have hpk := runsTo_length l k hk
    by_cases hlt : k < (plc l).length
    · obtain ⟨g, rfl, hg, hBg⟩ := hA (by omega)
      obtain ⟨pg, rfl, hpg, hBpg⟩ := hPA (by omega)
      have hi := plc_lt l k hlt
      have e0 := (hb.cell (p := ⟨pg, k, none⟩) hpg).trans (hpcs k hlt pg rfl)
      obtain ⟨d0, d1, d2⟩ := cells_later hb hg (hcs (nth (plc l) k) hi g rfl)
      have hc' := (hb.cell (p := ⟨p, 0, none⟩) hpl0).trans hc
      have hsz := hb.size
      clear hcs hA hr hc hPA hpcs
      have HP := hid_mk (runsTo_succ l k hlt)
      have HL := hid_mk hpk
      clear hpk
      have hown2 := fun o => World.ownsRow.alloc hown o
      go_wp2_with (at_builtin; refine app_own _ rfl (.tmp 13) (.tmp 22) 36 2 (.int .i64 0) 1 8 rfl Try.underlying36 info2 rfl (by decide) w0.heap.size _ (runsTo l k).length (ints (runsTo l k)) _ rfl _ rfl (by simp) rfl ?_ hown (by omega) (by rw [HL.out]; omega) (by rw [HL.out]; omega) ?_)
      · exact rfl
      · intro v' w1 hown' honly
        have R : Ids w0.heap.size w1 v' (runsTo l (k + 1)) := by
          rw [HP.out]
          unfold Ids
          rw [ints_append, List.length_append]
          exact hown'
        have hB1 := hb.trans (honly.below hsz)
        clear hown' honly hown hown2
        go_wp2
        exact ⟨⟨k + 1, by go_num, by omega, R, hB1⟩, by simp [intOf]; omega⟩
    · obtain rfl : k = (plc l).length := by omega
      go_wp2
      go_ret
      rw [runsTo_all] at hown
      exact ⟨_, rfl, ownsRow_base hown hw0, bthen hb0 hb⟩

/-! ### Pick -/
theorem tmod_place (l : List One) (n : Int) (h0 : 0 < (plc l).length) (hn : n.tmod ((plc l).length : Int) < 0) : n.tmod ((plc l).length : Int) + ((plc l).length : Int) = (place l n : Int) := by
  have h1 := Int.emod_nonneg n (b := ((plc l).length : Int)) (by omega)
  have h2 := Int.emod_lt_of_pos n (b := ((plc l).length : Int)) (by omega)
  have h3 := Int.tmod_eq_emod (a := n) (b := ((plc l).length : Int))
  unfold place
  rw [Int.toNat_of_nonneg h1]
  split at h3 <;> omega
theorem tmod_place' (l : List One) (n : Int) (h0 : 0 < (plc l).length) (hn : ¬ n.tmod ((plc l).length : Int) < 0) : n.tmod ((plc l).length : Int) = (place l n : Int) := by
  have h1 := Int.emod_nonneg n (b := ((plc l).length : Int)) (by omega)
  have h2 := Int.emod_lt_of_pos n (b := ((plc l).length : Int)) (by omega)
  have h3 := Int.tmod_eq_emod (a := n) (b := ((plc l).length : Int))
  unfold place
  rw [Int.toNat_of_nonneg h1]
  split at h3 <;> omega

/-- The cells of an element, where the row's list stands under another name than its length. -/
theorem row_cells {B g n cap : Nat} {w : World} {l : List One} (h : w.ownsRow B 53 3 (.slice (some ⟨g, 0, none⟩) n cap) n (flat l)) (i : Nat) (hi : i < l.length) :
    w.cell? ⟨g, i * 3, none⟩ = some (.int .i64 (ith l i).id) ∧ w.cell? ⟨g, i * 3 + 1, none⟩ = some (.bool (ith l i).runs) ∧ w.cell? ⟨g, i * 3 + 2, none⟩ = some (.int .i64 (ith l i).age) := by
  have hn : l.length * 3 = n * 3 := by rw [← flat_length]; exact h.1
  obtain ⟨a, b, c⟩ := flat_get l i hi
  exact ⟨(h.cellAt _ (by omega)).trans a, (h.cellAt _ (by omega)).trans b, (h.cellAt _ (by omega)).trans c⟩

theorem pick_none (l : List One) (B p : Nat) (n : Int) (w : World) (h : Tab B w p l) (hl : l.length < 1000000000000) (h0 : (plc l).length = 0) :
    Calls Try.prog 12 #[.pointer (some ⟨p, 0, none⟩), .int .i64 n] w fun e w' => e = .returned (.tuple #[.int .i64 0, .bool false]) ∧ Below w.heap.size w w' := by
  have hz : (((plc l).length : Int) == 0) = true := by rw [h0]; rfl
  have H0 := hid_mk h0
  clear h0
  go_enter Try.func12, Try.ntmps12
  go_wp2_with fail
  refine (places_any l B _ _ h hl).mono ?_
  rintro e w0 ⟨pv, rfl, hpv, hb0⟩
  obtain ⟨PA, pcap, rfl, hpm, hPA, hpcs⟩ := hpv.cells
  go_wp2
  go_ret2
  exact ⟨rfl, hb0⟩

theorem bump_id (l : List One) (j : Nat) (h : j ≤ (plc l).length) (i : Nat) : (ith (bumpTo l j) i).id = (ith l i).id := by
  rw [bumpTo_get l j h i]
  split <;> rfl

theorem stored_age {B g n cap : Nat} {w : World} {l : List One} (h : w.ownsRow B 53 3 (.slice (some ⟨g, 0, none⟩) n cap) n (flat l)) (hBg : B ≤ g) (i : Nat) (hi : i < l.length) (a : Int) :
    (w.setCell ⟨g, i * 3 + 2, none⟩ (.int .i64 a)).ownsRow B 53 3 (.slice (some ⟨g, 0, none⟩) n cap) n (flat (l.set i (withAge (ith l i) a))) ∧ Only [53] B w (w.setCell ⟨g, i * 3 + 2, none⟩ (.int .i64 a)) := by
  have hs := World.ownsRow.stored h (i * 3 + 2) (.int .i64 a)
  rw [flat_set_age l a i hi] at hs
  refine ⟨hs.1, Only.setCell _ (by exact hBg) (T := 53) (by decide) ?_⟩
  exact (ownsRow_hasT h g rfl).2

set_option maxHeartbeats 800000 in
theorem pick_some (l : List One) (B p : Nat) (n : Int) (M : Int) (w : World) (h : Tab B w p l) (hl : l.length < 1000000000000) (h0 : 0 < (plc l).length) (hM : M < 1000000000000) (hag : AgesLe l M) :
    Calls Try.prog 12 #[.pointer (some ⟨p, 0, none⟩), .int .i64 n] w fun e w' => e = .returned (.tuple #[.int .i64 (ith l (pickK l n)).id, .bool true]) ∧ Tab B w' p (pickL l n) ∧ Only [50, 53] B w w' := by
  have hz : (((plc l).length : Int) == 0) = false := beq_eq_false_iff_ne.2 (by omega)
  have hpl := plc_length l
  have hplace := place_lt l n h0
  have hcase : (n.tmod ((plc l).length : Int) < 0 ∧ n.tmod ((plc l).length : Int) + ((plc l).length : Int) = (place l n : Int)) ∨ (True ∧ n.tmod ((plc l).length : Int) = (place l n : Int)) := by
    by_cases hneg : n.tmod ((plc l).length : Int) < 0
    · exact .inl ⟨hneg, tmod_place l n h0 hneg⟩
    · exact .inr ⟨trivial, tmod_place' l n h0 hneg⟩
  rcases hcase with ⟨hneg, hq⟩ | ⟨_, hq⟩
  all_goals
    go_enter Try.func12, Try.ntmps12
    go_wp2_with fail
    refine (places_any l B _ _ h hl).mono ?_
    rintro e w0 ⟨pv, rfl, hpv, hb0⟩
    obtain ⟨hBp, v, hp, hr⟩ := h.below hb0
    obtain ⟨A, cap, rfl, hm, hA, hcs⟩ := hr.cells
    obtain ⟨PA, pcap, rfl, hpm, hPA, hpcs⟩ := hpv.cells
    obtain ⟨g, rfl, hg, hBg⟩ := hA (by omega)
    obtain ⟨pg, rfl, hpg, hBpg⟩ := hPA (by omega)
    have e0 := hpcs (place l n) hplace pg rfl
    have hc := cell_of_one hp
    have hpl0 := lt_of_block hp
    have hw0 := hb0.size
    have HPC := hid_mk fun i hi => hpcs i hi pg rfl
    have HRC := hid_mk fun i hi => hcs i hi g rfl
    clear hpcs hPA hA hcs
    go_wp2_with fail
    clear e0 hq
    try clear hneg
    go_loopw [7, 8, 34] (fun q o i wr => ∃ k : Nat, i = .int .i64 k ∧ k ≤ (plc l).length ∧ q = .int .i64 ((pickTo l n k).1 : Nat) ∧ o = .int .i64 (pickTo l n k).2 ∧ Below w0.heap.size w0 wr) (fun _ _ i _ => (plc l).length - (intOf i).toNat)
    case atStart => exact ⟨0, rfl, Nat.zero_le _, rfl, rfl, Below.refl _ _⟩
    case round =>
      obtain ⟨k, rfl, hk, rfl, rfl, hb⟩ := hrel
      by_cases hlt : k < (plc l).length
      · have hi := plc_lt l k hlt
        have f0 := (hb.cell (p := ⟨pg, k, none⟩) hpg).trans (HPC.out k hlt)
        obtain ⟨d0, d1, d2⟩ := cells_later hb hg (HRC.out (nth (plc l) k) hi)
        have hc' := (hb.cell (p := ⟨p, 0, none⟩) hpl0).trans hc
        have HS := hid_mk (pickTo_succ l n k hlt)
        clear hc hr d0 d1
        by_cases hold : (pickTo l n k).2 < (ith l (nth (plc l) k)).age
        · have HS2 : Hid (pickTo l n (k + 1) = (nth (plc l) k, (ith l (nth (plc l) k)).age)) := by
            rw [HS.out]; unfold pstep; rw [if_pos hold]; exact rfl
          clear HS
          go_wp2_with fail
          go_quiet (fail)
          go_wp2_with fail
          exact ⟨⟨k + 1, by go_num, by omega, by rw [HS2.out], by rw [HS2.out], pw_below hb⟩, by simp [intOf]; omega⟩
        · have HS2 : Hid (pickTo l n (k + 1) = pickTo l n k) := by
            rw [HS.out]; unfold pstep; rw [if_neg hold]; exact rfl
          clear HS
          go_wp2_with fail
          exact ⟨⟨k + 1, by go_num, by omega, by rw [HS2.out], by rw [HS2.out], hb⟩, by simp [intOf]; omega⟩
      · obtain rfl : k = (plc l).length := by omega
        obtain ⟨w1, rfl⟩ : ∃ wo : World, wo = wr := ⟨_, rfl⟩
        have hr1 := hr.below hb
        have hp1 := below_block hb hpl0 hp
        have hpv1 : Nums w.heap.size w1 (.slice (some ⟨pg, 0, none⟩) (plc l).length pcap) (plc l) := ownsRow_below hpv hb
        clear hr hp hpv hc HPC HRC
        go_wp2_with fail
        go_loopw [60] (fun i wr => ∃ k : Nat, i = .int .i64 k ∧ k ≤ (plc l).length ∧ wr.ownsRow B 53 3 (.slice (some ⟨g, 0, none⟩) l.length cap) l.length (flat (bumpTo l k)) ∧ Only [53] B w1 wr) (fun i _ => (plc l).length - (intOf i).toNat)
        case atStart => exact ⟨0, rfl, Nat.zero_le _, hr1, Only.refl _ _ _⟩
        case round =>
          obtain ⟨k, rfl, hk, hrow, ho⟩ := hrel
          have hpk := ho.at_ hp1 (by decide)
          have hc := cell_of_one hpk
          have hlk := bumpTo_length l k hk
          by_cases hlt : k < (plc l).length
          · have hi := plc_lt l k hlt
            have f0 := Nums.at_ (ho.owns hpv1 (by decide)) k hlt
            obtain ⟨d0, d1, d2⟩ := row_cells hrow (nth (plc l) k) (by omega)
            have hf := World.ownsRow.frozenAt hrow (nth (plc l) k * 3 + 2)
            have hage := bumpTo_ages l M hag k hk (nth (plc l) k) (by omega)
            have HS := hid_mk (bumpTo_succ l k hlt)
            have HST := hid_mk (stored_age hrow hBg (nth (plc l) k) (by omega) ((ith (bumpTo l k) (nth (plc l) k)).age + 1))
            clear hpk d0 d1 hlk hrow hr1 hp1 hpv1
            go_wp2_with fail
            refine ⟨⟨k + 1, by go_num, by omega, ?_, ho.trans HST.out.2⟩, by simp [intOf]; omega⟩
            rw [HS.out]
            exact HST.out.1
          · obtain rfl : k = (plc l).length := by omega
            have hKl := pickTo_lt l n h0 (plc l).length (Nat.le_refl _)
            obtain ⟨d0, d1, d2⟩ := row_cells hrow (pickTo l n (plc l).length).1 (by omega)
            have hf := World.ownsRow.frozenAt hrow ((pickTo l n (plc l).length).1 * 3 + 2)
            have HST := hid_mk (stored_age hrow hBg (pickTo l n (plc l).length).1 (by omega) 0)
            have HI := hid_mk (bump_id l (plc l).length hk (pickTo l n (plc l).length).1)
            clear d1 hlk hrow hr1 hpv1
            go_wp2_with fail
            go_ret2
            refine ⟨by rw [HI.out]; rfl, ⟨hBp, _, (HST.out.2.at_ hpk (by decide)), ?_⟩, (Only.of_below hb0).trans ((Only.of_below hb).trans ((ho.trans HST.out.2).wider (by decide)))⟩
            unfold Row pickL bump
            rw [List.length_set, bumpTo_length l _ hk]
            exact HST.out.1

end Go.Proofs.Ytjbjkkicfdaljaa
