/- The walk over the law's own account of a deed. -/
import Derived.Test.YtjbjkkicfdaljaaActs
import Derived.Test.YtjbjkkicfdaljaaStepPure
namespace Go.Proofs.Ytjbjkkicfdaljaa
open Go.RowKit
set_option linter.unusedVariables false

theorem info57 : (Try.prog.info? 57).map (fun i => (i.zero, i.size, i.bytes)) = some (some (.agg #[.int .i64 0, .bool false, .int .i64 0]), 3, 24) := by kernel_rfl

/-- A row of the law's own list. -/
def LRow (B : Nat) (w : World) (v : Value) (l : List One) : Prop := w.ownsRow B 57 3 v l.length (flat l)

theorem LRow.cells {B : Nat} {w : World} {v : Value} {l : List One} (h : LRow B w v l) : ∃ A cap, v = .slice A l.length cap ∧ l.length ≤ 9223372036854775807 ∧ l.length ≤ cap ∧ cap ≤ 9223372036854775807 ∧ (0 < l.length → ∃ g, A = some ⟨g, 0, none⟩ ∧ g < w.heap.size ∧ B ≤ g) ∧
    ∀ i, i < l.length → ∀ g, A = some ⟨g, 0, none⟩ → w.cell? ⟨g, i * 3, none⟩ = some (.int .i64 (ith l i).id) ∧ w.cell? ⟨g, i * 3 + 1, none⟩ = some (.bool (ith l i).runs) ∧ w.cell? ⟨g, i * 3 + 2, none⟩ = some (.int .i64 (ith l i).age) := by
  obtain ⟨A, cap, rfl, h1, h2, h3⟩ := ownsRow_shape h
  refine ⟨A, cap, rfl, by simp only [maxLen] at h2; omega, h1, by simp only [maxLen] at h2; omega, fun h0 => ?_, fun i hi g hg => ?_⟩
  · obtain ⟨g, rfl, hb, ⟨cs, fr, hh⟩, _⟩ := h3 h0
    exact ⟨g, rfl, lt_of_block hh, hb⟩
  · obtain ⟨g', rfl, hb, _, hc⟩ := h3 (by omega)
    have e : g' = g := by simpa using hg
    subst e
    obtain ⟨a, b, c⟩ := flat_get l i hi
    exact ⟨hc _ _ a, hc _ _ b, hc _ _ c⟩

theorem ret_step {v : Value} {n n' : Int} {b b' : Bool} (h1 : n = n') (h2 : b = b') : Ending.returned (.tuple #[v, .int .i64 n, .bool b]) = .returned (.tuple #[v, .int .i64 n', .bool b']) := by rw [h1, h2]
theorem flat_three (l : List One) (x : One) (i : Nat) (hi : i < l.length) : (((flat l).set (i * 3) (.int .i64 x.id)).set (i * 3 + 1) (.bool x.runs)).set (i * 3 + 2) (.int .i64 x.age) = flat (l.set i x) := by
  induction l generalizing i with
  | nil => simp at hi
  | cons y l ih =>
    cases i with
    | zero => simp [flat_cons]
    | succ i =>
      have := ih i (by simpa using hi)
      rw [show (i + 1) * 3 = i * 3 + 1 + 1 + 1 by omega, flat_cons]
      simp only [List.set_cons_succ, this, flat_cons]
theorem stored_one {B g n cap : Nat} {w : World} {l : List One} (h : w.ownsRow B 57 3 (.slice (some ⟨g, 0, none⟩) n cap) n (flat l)) (hBg : B ≤ g) (i : Nat) (hi : i < l.length) (x : One) :
    (((w.setCell ⟨g, i * 3, none⟩ (.int .i64 x.id)).setCell ⟨g, i * 3 + 1, none⟩ (.bool x.runs)).setCell ⟨g, i * 3 + 2, none⟩ (.int .i64 x.age)).ownsRow B 57 3 (.slice (some ⟨g, 0, none⟩) n cap) n (flat (l.set i x)) ∧
    Only [57] B w (((w.setCell ⟨g, i * 3, none⟩ (.int .i64 x.id)).setCell ⟨g, i * 3 + 1, none⟩ (.bool x.runs)).setCell ⟨g, i * 3 + 2, none⟩ (.int .i64 x.age)) := by
  have h1 := World.ownsRow.stored h (i * 3) (.int .i64 x.id)
  have h2 := World.ownsRow.stored h1.1 (i * 3 + 1) (.bool x.runs)
  have h3 := World.ownsRow.stored h2.1 (i * 3 + 2) (.int .i64 x.age)
  rw [flat_three l x i hi] at h3
  refine ⟨h3.1, ?_⟩
  exact ((Only.setCell _ (by exact hBg) (T := 57) (by decide) (ownsRow_hasT h g rfl).2).trans (Only.setCell _ (by exact hBg) (T := 57) (by decide) (ownsRow_hasT h1.1 g rfl).2)).trans (Only.setCell _ (by exact hBg) (T := 57) (by decide) (ownsRow_hasT h2.1 g rfl).2)
theorem ith_idx (l : List One) (id : Int) (hlt : idx l id < l.length) : (ith l (idx l id)).id = id := by
  have this : ((fun x : One => x.id == id) (l[idx l id]'hlt)) = true := List.findIdx_getElem (xs := l) (p := fun x : One => x.id == id) (w := hlt)
  rw [ith_get l _ hlt]
  simpa using this

theorem l_cells {B g n cap : Nat} {w : World} {l : List One} (h : w.ownsRow B 57 3 (.slice (some ⟨g, 0, none⟩) n cap) n (flat l)) (i : Nat) (hi : i < l.length) :
    w.cell? ⟨g, i * 3, none⟩ = some (.int .i64 (ith l i).id) ∧ w.cell? ⟨g, i * 3 + 1, none⟩ = some (.bool (ith l i).runs) ∧ w.cell? ⟨g, i * 3 + 2, none⟩ = some (.int .i64 (ith l i).age) := by
  have hn : l.length * 3 = n * 3 := by rw [← flat_length]; exact h.1
  obtain ⟨a, b, c⟩ := flat_get l i hi
  exact ⟨(h.cellAt _ (by omega)).trans a, (h.cellAt _ (by omega)).trans b, (h.cellAt _ (by omega)).trans c⟩
theorem l_age {B g n cap : Nat} {w : World} {l : List One} (h : w.ownsRow B 57 3 (.slice (some ⟨g, 0, none⟩) n cap) n (flat l)) (hBg : B ≤ g) (i : Nat) (hi : i < l.length) (a : Int) :
    (w.setCell ⟨g, i * 3 + 2, none⟩ (.int .i64 a)).ownsRow B 57 3 (.slice (some ⟨g, 0, none⟩) n cap) n (flat (l.set i (withAge (ith l i) a))) ∧ Only [57] B w (w.setCell ⟨g, i * 3 + 2, none⟩ (.int .i64 a)) := by
  have hs := World.ownsRow.stored h (i * 3 + 2) (.int .i64 a)
  rw [flat_set_age l a i hi] at hs
  refine ⟨hs.1, Only.setCell _ (by exact hBg) (T := 57) (by decide) ?_⟩
  exact (ownsRow_hasT h g rfl).2
theorem plcTo_le (l : List One) (k : Nat) (hk : k ≤ l.length) : (plcTo l k).length ≤ (plc l).length := by
  have h := congrArg List.length (plcTo_prefix l k hk)
  rw [List.length_take] at h
  omega
theorem bump_here (l : List One) (k : Nat) (hk : k ≤ l.length) : ith (bumpTo l (plcTo l k).length) k = ith l k := by
  rw [bumpTo_get l _ (plcTo_le l k hk), plcTo_prefix l k hk, if_neg]
  unfold plcTo
  simp

theorem max_fact (P : Program) (a b : Int) : ∀ ats ty W, (Builtin.max_ ats ty #[.int .i64 a, .int .i64 b]).run P W = .ok (.int .i64 (if a < b then b else a)) W := by
  intro ats ty W
  simp only [Builtin.max_, List.foldlM_cons, List.foldlM_nil, Builtin.max2]
  rfl
theorem place_mod (l : List One) (n : Int) (h0 : 0 < (plc l).length) : (n.tmod ((plc l).length : Int) + ((plc l).length : Int)) % ((plc l).length : Int) = (place l n : Int) := by
  have h1 := Int.emod_nonneg n (b := ((plc l).length : Int)) (by omega)
  have h2 := Int.emod_lt_of_pos n (b := ((plc l).length : Int)) (by omega)
  have h3 := Int.tmod_eq_emod (a := n) (b := ((plc l).length : Int))
  have h4 : ((plc l).length : Int).natAbs = (plc l).length := rfl
  unfold place
  rw [Int.toNat_of_nonneg h1, Int.add_emod_right]
  split at h3
  · rw [h3]; simp
  · rw [h3, h4]; simp
theorem tmod_range (n : Int) (m : Nat) (h0 : 0 < m) : -(m : Int) < n.tmod (m : Int) ∧ n.tmod (m : Int) < m := by
  have h1 := Int.emod_nonneg n (b := (m : Int)) (by omega)
  have h2 := Int.emod_lt_of_pos n (b := (m : Int)) (by omega)
  have h3 := Int.tmod_eq_emod (a := n) (b := (m : Int))
  have h4 := Int.lt_tmod_of_pos n (b := (m : Int)) (by omega)
  split at h3 <;> omega

set_option maxHeartbeats 4000000 in
set_option maxRecDepth 100000 in
theorem step_any (l : List One) (B : Nat) (v : Value) (a : Deed) (M : Int) (w : World) (h : LRow B w v l) (hok : a.ok) (hl : l.length < 1000000000000) (hM0 : 0 ≤ M) (hM : M < 1000000000000) (hag : AgesLe l M) (hnd : (idsOf l).Nodup) :
    Calls Try.prog 19 #[v, .agg #[.int .u8 a.kind, .int .u8 a.id, .bool a.runs, .int .i64 a.n]] w fun e w' => ∃ v', e = .returned (.tuple #[v', .int .i64 (doN l a), .bool (doB l a)]) ∧ LRow w.heap.size w' v' (doL l a) ∧ Below w.heap.size w w' := by
  obtain ⟨k0, k1, i0, i1⟩ := hok
  obtain ⟨w0, hw0⟩ : ∃ w0, w0 = w.alloc (.cells #[.int .u8 a.kind, .int .u8 a.id, .bool a.runs, .int .i64 a.n] 34) := ⟨_, rfl⟩
  have hbox : w0.heap[w.heap.size]? = some (.cells #[.int .u8 a.kind, .int .u8 a.id, .bool a.runs, .int .i64 a.n] 34 (0, 0)) := by rw [hw0]; exact heap_alloc_new w _
  have b0 : Below w.heap.size w w0 := by rw [hw0]; exact balloc _
  have h0 : LRow B w0 v l := ownsRow_below h b0
  have hs0 : w.heap.size < w0.heap.size := lt_of_block hbox
  have HW0 := hid_mk hw0
  clear hw0
  obtain ⟨A, cap, rfl, hlm, hlc, hcm, hA, hcs⟩ := h0.cells
  go_enter Try.func19, Try.ntmps19
  go_wp2_with fail
  rw [← HW0.out]
  go_loopw [8, 25] (fun y i wr => ∃ k : Nat, i = .int .i64 k ∧ k ≤ l.length ∧ y = .int .i64 (atTo l (a.id % 12) k) ∧ Below w0.heap.size w0 wr) (fun _ i _ => l.length - (intOf i).toNat)
  case atStart => exact ⟨0, rfl, Nat.zero_le _, rfl, Below.refl _ _⟩
  case round =>
    obtain ⟨k, rfl, hk, rfl, hb⟩ := hrel
    by_cases hlt : k < l.length
    · obtain ⟨g, rfl, hg, hBg⟩ := hA (by omega)
      obtain ⟨d0, d1, d2⟩ := cells_later hb hg (hcs k hlt g rfl)
      have HS := hid_mk (atTo_succ l (a.id % 12) hnd k hlt)
      clear hcs hA h h0 hag hnd hbox
      by_cases hid : (ith l k).id = a.id % 12
      · have hb1 : ((ith l k).id == a.id % 12) = true := by simpa using hid
        have HS2 : Hid (atTo l (a.id % 12) (k + 1) = (k : Int)) := by rw [HS.out, if_pos hid]; exact rfl
        clear hid
        go_wp2_with fail
        exact ⟨⟨k + 1, by go_num, by omega, by rw [HS2.out], bthen hb (balloc _)⟩, by simp [intOf]; omega⟩
      · have hb1 : ((ith l k).id == a.id % 12) = false := by simpa using hid
        have HS2 : Hid (atTo l (a.id % 12) (k + 1) = atTo l (a.id % 12) k) := by rw [HS.out, if_neg hid]; exact rfl
        clear hid
        go_wp2_with fail
        exact ⟨⟨k + 1, by go_num, by omega, by rw [HS2.out], bthen hb (balloc _)⟩, by simp [intOf]; omega⟩
    · obtain rfl : k = l.length := by omega
      obtain ⟨w1, rfl⟩ : ∃ wo : World, wo = wr := ⟨_, rfl⟩
      have h1 := ownsRow_below h0 hb
      have hbox1 := below_block hb hs0 hbox
      have hs1 := hb.size
      clear hcs hA h h0 hbox
      have he := World.ownsRow_lit (base := w0.heap.size) (e := 57) (size := 3) w1 #[] 0 hs1 (Nat.zero_le _) rfl
      go_wp2_with (at_builtin; refine wpList_app_row _ rfl (.tmp 36) (.tmp 37) 43 57 (.agg #[.int .i64 0, .bool false, .int .i64 0]) 3 24 rfl Try.underlying43 info57 rfl (by decide) w0.heap.size _ 0 [] rfl he B _ l.length (flat l) rfl (World.ownsRow.alloc h1 _) (flat_cells l) (by simp; omega) (by omega) (by omega) ?_)
      intro v2 w2 hown2 honly2
      have hrow2 : LRow w0.heap.size w2 v2 l := hown2
      have hO2 := ((Only.refl [57] w0.heap.size w1).alloc _).trans honly2
      have hbox2 := hO2.at_ hbox1 (by decide)
      have c0 : w2.cell? ⟨w.heap.size, 0, none⟩ = some (.int .u8 a.kind) := (cell_of_row w2 w.heap.size 0 _ _ _ hbox2).trans rfl
      have c2 : w2.cell? ⟨w.heap.size, 2, none⟩ = some (.bool a.runs) := (cell_of_row w2 w.heap.size 2 _ _ _ hbox2).trans rfl
      have c3 : w2.cell? ⟨w.heap.size, 3, none⟩ = some (.int .i64 a.n) := (cell_of_row w2 w.heap.size 3 _ _ _ hbox2).trans rfl
      have hB2 : Below w.heap.size w w2 := b0.trans ((hb.trans (hO2.below hs1)).mono (Nat.le_of_lt hs0))
      have hs2 : w0.heap.size ≤ w2.heap.size := Nat.le_trans hs1 hO2.size
      obtain ⟨A, cap, rfl, _, hlc, hcm, hA, hcs⟩ := hrow2.cells
      clear hown2 honly2 hO2 he h1 hbox1 hbox2 HW0 b0 hb
      have hfin := fun (v' : Value) (w' : World) (l' : List One) (hr : LRow w0.heap.size w' v' l') => (ownsRow_base hr (Nat.le_of_lt hs0) : LRow w.heap.size w' v' l')
      have HF := hid_mk hfin
      clear hfin
      by_cases hk0 : a.kind % 6 = 0
      · have hkb : (a.kind % 6 == 0) = true := by simpa using hk0
        have HN : Hid (doN l a = 0) := by unfold doN; rw [if_pos (.inl hk0)]; exact rfl
        by_cases hi : idx l (a.id % 12) < l.length
        · have hat : atTo l (a.id % 12) l.length = (idx l (a.id % 12) : Int) := if_pos hi
          have HL : Hid (doL l a = l) := by unfold doL addL; rw [if_pos hk0]; exact if_pos hi
          have HB : Hid (doB l a = false) := by unfold doB; rw [if_pos hk0]; exact (congrArg (!·) ((idx_lt_iff l (a.id % 12)).1 hi))
          go_wp2_with fail
          go_ret3
          refine ⟨_, ret_step HN.out.symm (by rw [HB.out]; simp), ?_, hB2⟩
          rw [HL.out]
          exact HF.out _ _ _ hrow2
        · have hat : atTo l (a.id % 12) l.length = -1 := if_neg hi
          have HL : Hid (doL l a = l ++ [⟨a.id % 12, a.runs, 0⟩]) := by unfold doL addL; rw [if_pos hk0]; exact if_neg hi
          have HB : Hid (doB l a = true) := by
            have h2 : hasId l (a.id % 12) = false := by rw [← Bool.not_eq_true, ← idx_lt_iff]; exact hi
            unfold doB; rw [if_pos hk0]; exact (congrArg (!·) h2)
          clear hcs hA
          go_wp2_with (at_builtin; refine app_own _ rfl (.tmp 46) (.tmp 51) 43 57 (.agg #[.int .i64 0, .bool false, .int .i64 0]) 3 24 rfl Try.underlying43 info57 rfl (by decide) w0.heap.size _ l.length (flat l) _ rfl _ rfl (by simp) rfl ?_ hrow2 (by omega) (by omega) (by omega) ?_)
          · exact ⟨rfl, rfl, rfl⟩
          · intro v3 w3 hown3 honly3
            go_wp2_with fail
            go_ret3
            refine ⟨_, ret_step HN.out.symm (by rw [HB.out]), HF.out _ _ _ ?_, hB2.trans ((honly3.below hs2).mono (Nat.le_of_lt hs0))⟩
            rw [HL.out]
            unfold LRow
            rw [flat_append, flat_one, List.length_append]
            exact hown3
      · have hkb : (a.kind % 6 == 0) = false := by simpa using hk0
        by_cases hk1 : a.kind % 6 = 1
        · have hkb1 : (a.kind % 6 == 1) = true := by simpa using hk1
          have HN : Hid (doN l a = 0) := by unfold doN; rw [if_pos (.inr (.inl hk1))]; exact rfl
          have HL0 : Hid (doL l a = setL l (a.id % 12) a.runs) := by unfold doL; rw [if_neg hk0, if_pos hk1]; exact rfl
          have HB0 : Hid (doB l a = hasId l (a.id % 12)) := by unfold doB; rw [if_neg hk0, if_pos hk1]; exact rfl
          by_cases hi : idx l (a.id % 12) < l.length
          · have hat : atTo l (a.id % 12) l.length = (idx l (a.id % 12) : Int) := if_pos hi
            obtain ⟨g, rfl, hg, hBg⟩ := hA (by omega)
            obtain ⟨d0, d1, d2⟩ := hcs _ hi g rfl
            have HB : Hid (hasId l (a.id % 12) = true) := hid_mk ((idx_lt_iff l (a.id % 12)).1 hi)
            have e1 : ((idx l (a.id % 12) : Nat) : Int).toNat = idx l (a.id % 12) := rfl
            by_cases hr : (ith l (idx l (a.id % 12))).runs = a.runs
            · have hb1 : ((ith l (idx l (a.id % 12))).runs == a.runs) = true := by simpa using hr
              have HL : Hid (setL l (a.id % 12) a.runs = l) := by unfold setL; rw [if_pos hi, if_pos hr]; exact rfl
              clear hcs hA hr
              go_wp2_with fail
              go_quiet (fail)
              go_wp2_with fail
              go_ret3
              refine ⟨_, ret_step HN.out.symm (by rw [HB0.out, HB.out]), ?_, pw_below hB2⟩
              rw [HL0.out, HL.out]
              exact HF.out _ _ _ hrow2
            · have hb1 : ((ith l (idx l (a.id % 12))).runs == a.runs) = false := by simpa using hr
              have HL : Hid (setL l (a.id % 12) a.runs = l.set (idx l (a.id % 12)) ⟨a.id % 12, a.runs, 0⟩) := by unfold setL; rw [if_pos hi, if_neg hr, ith_idx l _ hi]; exact rfl
              have hf0 := World.ownsRow.frozenAt hrow2 (idx l (a.id % 12) * 3)
              have hf1 := World.ownsRow.frozenAt hrow2 (idx l (a.id % 12) * 3 + 1)
              have hf2 := World.ownsRow.frozenAt hrow2 (idx l (a.id % 12) * 3 + 2)
              clear hcs hA hr
              go_wp2_with fail
              go_quiet (fail)
              go_wp2_with fail
              go_ret3
              have S1 := stored_one hrow2 hBg (idx l (a.id % 12)) hi ⟨a.id % 12, a.runs, 0⟩
              refine ⟨_, ret_step HN.out.symm (by rw [HB0.out, HB.out]), HF.out _ _ _ ?_, hB2.trans (pw_below ((S1.2.below hs2).mono (Nat.le_of_lt hs0)))⟩
              rw [HL0.out, HL.out]
              unfold LRow
              rw [List.length_set]
              exact S1.1
          · have hat : atTo l (a.id % 12) l.length = -1 := if_neg hi
            have HL : Hid (setL l (a.id % 12) a.runs = l) := by unfold setL; rw [if_neg hi]; exact rfl
            have HB : Hid (hasId l (a.id % 12) = false) := by
              have h2 : hasId l (a.id % 12) = false := by rw [← Bool.not_eq_true, ← idx_lt_iff]; exact hi
              exact h2
            clear hcs hA
            go_wp2_with fail
            go_quiet (fail)
            go_wp2_with fail
            go_ret3
            refine ⟨_, ret_step HN.out.symm (by rw [HB0.out, HB.out]), ?_, pw_below hB2⟩
            rw [HL0.out, HL.out]
            exact HF.out _ _ _ hrow2
        · have hkb1 : (a.kind % 6 == 1) = false := by simpa using hk1
          by_cases hk2 : a.kind % 6 = 2
          · have hkb2 : (a.kind % 6 == 2) = true := by simpa using hk2
            have HN : Hid (doN l a = 0) := by unfold doN; rw [if_pos (.inr (.inr (.inl hk2)))]; exact rfl
            have HL0 : Hid (doL l a = dropL l (a.id % 12)) := by unfold doL; rw [if_neg hk0, if_neg hk1, if_pos hk2]; exact rfl
            have HB0 : Hid (doB l a = hasId l (a.id % 12)) := by unfold doB; rw [if_neg hk0, if_neg hk1, if_pos hk2]; exact rfl
            by_cases hi : idx l (a.id % 12) < l.length
            · have hat : atTo l (a.id % 12) l.length = (idx l (a.id % 12) : Int) := if_pos hi
              obtain ⟨g, rfl, hg, hBg⟩ := hA (by omega)
              obtain ⟨i0, hinf, hz0, hz1, hz2⟩ := info_parts info57
              have HB : Hid (hasId l (a.id % 12) = true) := hid_mk ((idx_lt_iff l (a.id % 12)).1 hi)
              obtain ⟨k, hk⟩ : ∃ k, k = idx l (a.id % 12) := ⟨_, rfl⟩
              rw [← hk] at hi hat
              obtain ⟨A, hA, HA⟩ : ∃ A : Addr, (if cap = k + 1 then some (⟨g, 0, none⟩ : Addr) else some ⟨g, (k + 1) * 3, none⟩) = some A ∧ Hid (k + 1 < l.length → A = ⟨g, (k + 1) * 3, none⟩) := by
                by_cases hc : cap = k + 1
                · exact ⟨_, by rw [if_pos hc], fun h => by omega⟩
                · exact ⟨_, by rw [if_neg hc], fun _ => rfl⟩
              have HK := hid_mk hk
              clear hk hcs
              have hwr : IntKind.i64.wrap ((k : Int) + 1) = (k : Int) + 1 := by rw [IntKind.wrap_i64]; omega
              have hp0 : (0 : Int) ≤ (k : Int) + 1 := by omega
              have hp1 : (k : Int) + 1 ≤ (l.length : Int) := by omega
              have hp2 : ((k : Int) + 1).toNat = k + 1 := by omega
              have hkc : k ≤ cap := by omega
              go_wp2_with fail
              go_region_law (refine step_cut (w := w2.drew) hrow2 k (k + 1) (by omega) (by omega) (flat_cells l) rfl (.tmp 92) (.tmp 96) 43 rfl i0 Try.underlying43 hinf hz1 (by simp [Act.eval, Act.put]) A (l.length - (k + 1)) (cap - (k + 1)) (by simp [Act.eval, Act.put]) HA.out rfl ?_; intro w3 hown3 hg3)
              go_wp2_with fail
              go_ret3
              have HG := Only.grown (Ts := [57]) (B := w0.heap.size) hg3 (fun j hj => by
                have e : g = j := by simpa using hj
                subst e
                exact ⟨hBg, _, List.mem_cons_self .., (ownsRow_hasT hrow2 g rfl).2⟩)
              refine ⟨_, ret_step HN.out.symm (by rw [HB0.out, HB.out]), HF.out _ _ _ ?_, hB2.trans ((((Only.drew (Only.refl _ _ w2)).trans HG).below hs2).mono (Nat.le_of_lt hs0))⟩
              rw [HL0.out]
              unfold LRow dropL
              rw [← HK.out, List.length_eraseIdx, if_pos hi, ← flat_eraseIdx l _ hi, show l.length - 1 = k + (l.length - (k + 1)) by omega]
              rw [show k * 3 + 3 = (k + 1) * 3 by omega]
              exact hown3
            · have hat : atTo l (a.id % 12) l.length = -1 := if_neg hi
              have HA : Hid (dropL l (a.id % 12) = l) := hid_mk (List.eraseIdx_of_length_le (by omega))
              have HB : Hid (hasId l (a.id % 12) = false) := by
                have h2 : hasId l (a.id % 12) = false := by rw [← Bool.not_eq_true, ← idx_lt_iff]; exact hi
                exact h2
              clear hcs hA
              go_wp2_with fail
              go_ret3
              refine ⟨_, ret_step HN.out.symm (by rw [HB0.out, HB.out]), ?_, hB2⟩
              rw [HL0.out, HA.out]
              exact HF.out _ _ _ hrow2
          · have hkb2 : (a.kind % 6 == 2) = false := by simpa using hk2
            have HD := hid_mk hnd
            clear hnd
            go_wp2_with fail
            clear hcs hA
            obtain ⟨A, cap', hA0, _, _, _, hA, hcs⟩ := hrow2.cells
            go_loopw [11, 12, 103] (fun m o i wr => ∃ k : Nat, i = .int .i64 k ∧ k ≤ l.length ∧ m = .int .i64 (plcTo l k).length ∧ o = .int .i64 (oldTo l k) ∧ Below w2.heap.size w2 wr) (fun _ _ i _ => l.length - (intOf i).toNat)
            case atStart => exact ⟨0, rfl, Nat.zero_le _, rfl, rfl, Below.refl _ _⟩
            case round =>
              obtain ⟨k, rfl, hk, rfl, rfl, hb⟩ := hrel
              have hpk := plcTo_length l k
              by_cases hlt : k < l.length
              · obtain ⟨g, rfl, hg, hBg⟩ := hA (by omega)
                obtain ⟨d0, d1, d2⟩ := cells_later hb hg (hcs k hlt g rfl)
                have HP := hid_mk (plcTo_succ l k)
                clear hcs hA
                cases hrun : (ith l k).runs
                · have HQ : Hid (plcTo l (k + 1) = plcTo l k) := by rw [HP.out, hrun]; simp [Hid]
                  have HO : Hid (oldTo l (k + 1) = oldTo l k) := by show (if (ith l k).runs = true then _ else _) = _; rw [hrun]; exact if_neg (by decide)
                  go_wp2_with fail
                  exact ⟨⟨k + 1, by go_num, by omega, by rw [HQ.out], by rw [HO.out], bthen hb (balloc _)⟩, by simp [intOf]; omega⟩
                · have HQ : Hid (plcTo l (k + 1) = plcTo l k ++ [k]) := by rw [HP.out, hrun]; simp [Hid]
                  have HO : Hid (oldTo l (k + 1) = if oldTo l k < (ith l k).age then (ith l k).age else oldTo l k) := by show (if (ith l k).runs = true then _ else _) = _; rw [hrun]; exact if_pos rfl
                  have hmx := max_fact Try.prog (oldTo l k) (ith l k).age
                  go_wp2_with fail
                  exact ⟨⟨k + 1, by go_num, by omega, by rw [HQ.out, List.length_append]; go_num, by rw [HO.out], bthen hb (balloc _)⟩, by simp [intOf]; omega⟩
              · obtain rfl : k = l.length := by omega
                obtain ⟨w3, rfl⟩ : ∃ wo : World, wo = wr := ⟨_, rfl⟩
                have hrow3 := ownsRow_below hrow2 hb
                have hB3 := hB2.trans (hb.mono (Nat.le_trans (Nat.le_of_lt hs0) hs2))
                have hs3 := Nat.le_trans hs2 hb.size
                have hc3 := (hb.cell (p := ⟨w.heap.size, 3, none⟩) (by show w.heap.size < w2.heap.size; omega)).trans c3
                clear hcs hA hb
                by_cases h0 : (plcTo l l.length).length = 0
                · have hz : (((plcTo l l.length).length : Int) == 0) = true := by rw [h0]; rfl
                  have HL : Hid (doL l a = l) := by unfold doL; rw [if_neg hk0, if_neg hk1, if_neg hk2]; exact if_pos h0
                  have HB : Hid (doB l a = false) := by unfold doB; rw [if_neg hk0, if_neg hk1, if_neg hk2]; exact decide_eq_false (by show ¬ 0 < (plcTo l l.length).length; omega)
                  have HN : Hid (doN l a = 0) := if_pos (.inr (.inr (.inr h0)))
                  go_wp2_with fail
                  go_ret3
                  refine ⟨_, ret_step HN.out.symm HB.out.symm, ?_, hB3⟩
                  rw [HL.out]
                  exact HF.out _ _ _ hrow3
                · have hz : (((plcTo l l.length).length : Int) == 0) = false := beq_eq_false_iff_ne.2 (by omega)
                  have HB : Hid (doB l a = true) := by unfold doB; rw [if_neg hk0, if_neg hk1, if_neg hk2]; exact decide_eq_true (by show 0 < (plcTo l l.length).length; omega)
                  have HN : Hid (doN l a = (ith l (pickK l a.n)).id) := if_neg (by rintro (h | h | h | h) <;> contradiction)
                  have HL : Hid (doL l a = pickL l a.n) := by unfold doL; rw [if_neg hk0, if_neg hk1, if_neg hk2]; exact if_neg h0
                  have h1 : 0 < (plc l).length := by show 0 < (plcTo l l.length).length; omega
                  have HS := hid_mk (pick_same l a.n h1)
                  have HPM := hid_mk (place_mod l a.n h1)
                  have HPL := hid_mk (place_lt l a.n h1)
                  obtain ⟨t0, t1⟩ := tmod_range a.n _ h1
                  have hplace : (wrap64 (a.n.tmod ((plcTo l l.length).length : Int) + ((plcTo l l.length).length : Int))).tmod ((plcTo l l.length).length : Int) = (place l a.n : Int) := by
                    have e := HPM.out
                    change (a.n.tmod ((plcTo l l.length).length : Int) + ((plcTo l l.length).length : Int)) % ((plcTo l l.length).length : Int) = _ at e
                    change -((plcTo l l.length).length : Int) < a.n.tmod ((plcTo l l.length).length : Int) at t0
                    change a.n.tmod ((plcTo l l.length).length : Int) < ((plcTo l l.length).length : Int) at t1
                    have hplen := plcTo_length l l.length
                    rw [show wrap64 (a.n.tmod ((plcTo l l.length).length : Int) + ((plcTo l l.length).length : Int)) = a.n.tmod ((plcTo l l.length).length : Int) + ((plcTo l l.length).length : Int) by unfold wrap64; omega, Int.tmod_eq_emod_of_nonneg (by omega)]
                    exact e
                  have HPP := hid_mk hplace
                  have hold0 := oldTo_nonneg l l.length
                  have hold1 := oldTo_le l M hM0 hag l.length (Nat.le_refl _)
                  clear hplace
                  go_wp2_with fail
                  rw [HPP.out]
                  have hpl0 := HPL.out
                  have hplen : (plc l).length ≤ l.length := plcTo_length l l.length
                  clear HPP HPM HPL t0 t1
                  obtain ⟨old, hold⟩ : ∃ o, o = oldTo l l.length := ⟨_, rfl⟩
                  obtain ⟨pl, hpl⟩ : ∃ o : Nat, o = place l a.n := ⟨_, rfl⟩
                  rw [← hold] at hold0 hold1 HS ⊢
                  rw [← hpl] at hpl0 HS ⊢
                  have HL1 := hid_mk h1
                  clear hold hpl hz
                  obtain ⟨Ax, capx, hAx, _, hcapx, _, hA, hcs⟩ := (show LRow w0.heap.size w3 _ l from hrow3).cells
                  obtain ⟨g, rfl, hg, hBg⟩ := hA (by omega)
                  obtain ⟨rfl, rfl⟩ : A = some ⟨g, 0, none⟩ ∧ cap = capx := by simpa using hAx
                  clear hA hcs hAx
                  go_loopw [15, 16, 129] (fun p q i wr => ∃ k : Nat, i = .int .i64 k ∧ k ≤ l.length ∧ p = .int .i64 ((pl : Int) - ((plcTo l k).length : Int)) ∧ q = .int .i64 (pkTo l old pl k) ∧ wr.ownsRow w0.heap.size 57 3 (.slice (some ⟨g, 0, none⟩) l.length cap) l.length (flat (bumpTo l (plcTo l k).length)) ∧ Only [57] w0.heap.size w3 wr) (fun _ _ i _ => l.length - (intOf i).toNat)
                  case atStart => exact ⟨0, rfl, Nat.zero_le _, by simp [plcTo], rfl, hrow3, Only.refl _ _ _⟩
                  case round =>
                    obtain ⟨k, rfl, hk, rfl, rfl, hrow, ho⟩ := hrel
                    have hj := plcTo_length l k
                    by_cases hlt : k < l.length
                    · have hag1 := hag k hlt
                      obtain ⟨d0, d1, d2⟩ := l_cells hrow k (by rw [bumpTo_length l _ (plcTo_le l k hk)]; omega)
                      rw [bump_here l k hk] at d0 d1 d2
                      have HP := hid_mk (plcTo_succ l k)
                      have HPK : Hid (pkTo l old pl (k + 1) = if (ith l k).runs = true ∧ pkTo l old pl k < 0 ∧ cand l old pl k then (k : Int) else pkTo l old pl k) := hid_mk rfl
                      cases hrun : (ith l k).runs
                      · have HQ : Hid (plcTo l (k + 1) = plcTo l k) := by rw [HP.out, hrun]; simp [Hid]
                        have HPK2 : Hid (pkTo l old pl (k + 1) = pkTo l old pl k) := by rw [HPK.out, if_neg (by rw [hrun]; simp)]; exact rfl
                        go_wp2_with fail
                        refine ⟨⟨k + 1, by go_num, by omega, by rw [HQ.out], by rw [HPK2.out], ?_, Only.alloc ho _⟩, by simp [intOf]; omega⟩
                        rw [HQ.out]
                        exact World.ownsRow.alloc hrow _
                      · have HQ : Hid (plcTo l (k + 1) = plcTo l k ++ [k]) := by rw [HP.out, hrun]; simp [Hid]
                        have HQN : Hid ((plcTo l (k + 1)).length = (plcTo l k).length + 1) := by rw [HQ.out]; simp [Hid]
                        have HNX := hid_mk (plcTo_next l k hlt hrun)
                        have HBS : Hid (bumpTo l ((plcTo l k).length + 1) = (bumpTo l (plcTo l k).length).set k (withAge (ith l k) ((ith l k).age + 1))) := by
                          rw [bumpTo_succ l _ HNX.out.1, HNX.out.2]; unfold ageUp; rw [bump_here l k hk]; exact rfl
                        have hlenB := bumpTo_length l _ (plcTo_le l k hk)
                        have HST := l_age hrow hBg k (by omega) ((ith l k).age + 1)
                        rw [bump_here l k hk] at HST
                        have HST := hid_mk HST
                        have hf := World.ownsRow.frozenAt hrow (k * 3 + 2)
                        have hcase : (True ∧ pkTo l old pl k < 0 ∧ 16 ≤ old ∧ ((ith l k).age == old) = true ∧ Hid (pkTo l old pl (k + 1) = k)) ∨
                            (True ∧ pkTo l old pl k < 0 ∧ 16 ≤ old ∧ ((ith l k).age == old) = false ∧ Hid (pkTo l old pl (k + 1) = pkTo l old pl k)) ∨
                            (True ∧ pkTo l old pl k < 0 ∧ old < 16 ∧ ((pl : Int) - ((plcTo l k).length : Int) == 0) = true ∧ Hid (pkTo l old pl (k + 1) = k)) ∨
                            (True ∧ pkTo l old pl k < 0 ∧ old < 16 ∧ ((pl : Int) - ((plcTo l k).length : Int) == 0) = false ∧ Hid (pkTo l old pl (k + 1) = pkTo l old pl k)) ∨
                            (True ∧ 0 ≤ pkTo l old pl k ∧ True ∧ True ∧ Hid (pkTo l old pl (k + 1) = pkTo l old pl k)) := by
                          by_cases p1 : pkTo l old pl k < 0
                          · by_cases p2 : 16 ≤ old
                            · by_cases p3 : (ith l k).age = old
                              · exact .inl ⟨trivial, p1, p2, by simpa using p3, by rw [HPK.out, if_pos ⟨hrun, p1, .inl ⟨p2, p3⟩⟩]; exact rfl⟩
                              · exact .inr (.inl ⟨trivial, p1, p2, by simpa using p3, by rw [HPK.out, if_neg (by rintro ⟨_, _, h | h⟩; exact p3 h.2; omega)]; exact rfl⟩)
                            · by_cases p4 : (pl : Int) - ((plcTo l k).length : Int) = 0
                              · exact .inr (.inr (.inl ⟨trivial, p1, by omega, by simpa using p4, by rw [HPK.out, if_pos ⟨hrun, p1, .inr ⟨by omega, p4⟩⟩]; exact rfl⟩))
                              · exact .inr (.inr (.inr (.inl ⟨trivial, p1, by omega, beq_eq_false_iff_ne.2 p4, by rw [HPK.out, if_neg (by rintro ⟨_, _, h | h⟩; exact p2 h.1; exact p4 h.2)]; exact rfl⟩)))
                          · exact .inr (.inr (.inr (.inr ⟨trivial, by omega, trivial, trivial, by rw [HPK.out, if_neg (fun h => p1 h.2.1)]; exact rfl⟩)))
                        have hD := hid_mk hrow
                        have hgw : g < wr.heap.size := Nat.lt_of_lt_of_le hg ho.size
                        clear hrow hrow2 hrow3
                        rcases hcase with ⟨_, p1, p2, p3, HPX⟩ | ⟨_, p1, p2, p3, HPX⟩ | ⟨_, p1, p2, p3, HPX⟩ | ⟨_, p1, p2, p3, HPX⟩ | ⟨_, p1, p2, p3, HPX⟩
                        all_goals
                          go_wp2_with fail
                          refine ⟨⟨k + 1, by go_num, by omega, by rw [HQN.out]; go_num, by rw [HPX.out], ?_, Only.alloc (ho.trans HST.out.2) _⟩, by simp [intOf]; omega⟩
                          rw [HQN.out, HBS.out]
                          exact World.ownsRow.alloc HST.out.1 _
                    · obtain rfl : k = l.length := by omega
                      have hpk : pkTo l old pl l.length = (pickK l a.n : Int) := HS.out
                      have hpkl := pickK_lt l a.n (by have := HL1.out; omega)
                      rw [hpk]
                      have hlenB : (bumpTo l (plcTo l l.length).length).length = l.length := bumpTo_length l _ (Nat.le_refl _)
                      have hf := World.ownsRow.frozenAt hrow (pickK l a.n * 3 + 2)
                      obtain ⟨d0, d1, d2⟩ := l_cells hrow (pickK l a.n) (by omega)
                      have HID := hid_mk (bump_id l (plcTo l l.length).length (Nat.le_refl _) (pickK l a.n))
                      have HST := hid_mk (l_age hrow hBg (pickK l a.n) (by omega) 0)
                      clear hrow3 hrow2 d1
                      go_wp2_with fail
                      go_quiet (fail)
                      go_wp2_with fail
                      go_ret3
                      refine ⟨_, ret_step (by rw [HN.out, HID.out]) HB.out.symm, HF.out _ _ _ ?_, hB3.trans (pw_below (((ho.trans HST.out.2).below hs3).mono (Nat.le_of_lt hs0)))⟩
                      rw [HL.out]
                      unfold LRow pickL bump
                      rw [List.length_set]
                      have e := bumpTo_length l (plc l).length (Nat.le_refl _)
                      rw [e]
                      exact HST.out.1

end Go.Proofs.Ytjbjkkicfdaljaa
