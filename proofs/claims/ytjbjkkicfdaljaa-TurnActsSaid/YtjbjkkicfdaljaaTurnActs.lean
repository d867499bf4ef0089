/- The walk over TurnActs. -/
import Derived.Test.YtjbjkkicfdaljaaStep
namespace Go.Proofs.Ytjbjkkicfdaljaa
open Go.RowKit
set_option linter.unusedVariables false

/-- The numbers of all, or of those that run: of the first k. -/
def selTo (l : List One) (b : Bool) : Nat → List Int
  | 0 => []
  | k + 1 => if (b || (ith l k).runs) = true then selTo l b k ++ [(ith l k).id] else selTo l b k
theorem selTo_length (l : List One) (b : Bool) (k : Nat) : (selTo l b k).length ≤ k := by
  induction k with
  | zero => exact Nat.le_refl _
  | succ k ih =>
    unfold selTo
    split
    · simp; omega
    · omega
theorem selTo_all (l : List One) : selTo l true l.length = idsOf l := by
  have key : ∀ k, selTo l true k = idsTo l k := by
    intro k
    induction k with
    | zero => rfl
    | succ k ih => rw [idsTo_succ, ← ih]; rfl
  exact key _
theorem selTo_runs (l : List One) : selTo l false l.length = runsOf l := by
  have key : ∀ k, selTo l false k = (plcTo l k).map fun i => (ith l i).id := by
    intro k
    induction k with
    | zero => rfl
    | succ k ih =>
      rw [plcTo_succ, List.map_append, ← ih]
      show (if (ith l k).runs = true then _ else _) = _
      cases (ith l k).runs <;> simp
  exact key _

theorem ids_any (l : List One) (B : Nat) (v : Value) (b : Bool) (w : World) (h : LRow B w v l) (hl : l.length < 1000000000000) :
    Calls Try.prog 20 #[v, .bool b] w fun e w' => ∃ v', e = .returned v' ∧ Ids w.heap.size w' v' (selTo l b l.length) ∧ Below w.heap.size w w' := by
  obtain ⟨A, cap, rfl, hlm, hlc, hcm, hA, hcs⟩ := h.cells
  go_enter Try.func20, Try.ntmps20
  go_wp2_with fail
  go_loopw [5, 10] (fun o i wr => ∃ k : Nat, i = .int .i64 k ∧ k ≤ l.length ∧ Ids w.heap.size wr o (selTo l b k) ∧ Below w.heap.size w wr) (fun _ i _ => l.length - (intOf i).toNat)
  case atStart => exact ⟨0, rfl, Nat.zero_le _, show World.ownsRow _ _ _ _ _ 0 [] from World.ownsRow_nil _ _ _ _, Below.refl _ _⟩
  case round =>
    obtain ⟨k, rfl, hk, hown, hb⟩ := hrel
    have hpk := selTo_length l b k
    by_cases hlt : k < l.length
    · obtain ⟨g, rfl, hg, hBg⟩ := hA (by omega)
      obtain ⟨d0, d1, d2⟩ := cells_later hb hg (hcs k hlt g rfl)
      have hsz := hb.size
      clear hcs hA h
      have hcase : (b = true ∧ Hid (selTo l b (k + 1) = selTo l b k ++ [(ith l k).id])) ∨ (b = false ∧ (ith l k).runs = true ∧ Hid (selTo l b (k + 1) = selTo l b k ++ [(ith l k).id])) ∨ (b = false ∧ (ith l k).runs = false ∧ Hid (selTo l b (k + 1) = selTo l b k)) := by
        cases b
        · cases hr : (ith l k).runs
          · exact .inr (.inr ⟨rfl, rfl, by show (if (false || (ith l k).runs) = true then _ else _) = _; rw [hr]; exact if_neg (by decide)⟩)
          · exact .inr (.inl ⟨rfl, rfl, by show (if (false || (ith l k).runs) = true then _ else _) = _; rw [hr]; exact if_pos rfl⟩)
        · exact .inl ⟨rfl, by show (if (true || (ith l k).runs) = true then _ else _) = _; rw [Bool.true_or]; exact if_pos rfl⟩
      have hown2 := fun o => World.ownsRow.alloc hown o
      rcases hcase with ⟨rfl, HQ⟩ | ⟨rfl, hr, HQ⟩ | ⟨rfl, hr, HQ⟩
      · go_wp2_with (at_builtin; refine app_own _ rfl (.tmp 19) (.tmp 22) 36 2 (.int .i64 0) 1 8 rfl Try.underlying36 info2 rfl (by decide) w.heap.size _ (selTo l true k).length (ints (selTo l true k)) _ rfl _ rfl (by simp) rfl ?_ (hown2 _) (by simp; omega) (by omega) (by omega) ?_)
        · exact rfl
        · intro v' w1 hown' honly
          have R : Ids w.heap.size w1 v' (selTo l true (k + 1)) := by
            rw [HQ.out]
            unfold Ids
            rw [ints_append, List.length_append]
            exact hown'
          have hB1 := (bthen hb (balloc _)).trans (honly.below (by simp; omega))
          clear hown' honly hown hown2
          go_wp2_with fail
          exact ⟨⟨k + 1, by go_num, by omega, R, hB1⟩, by simp [intOf]; omega⟩
      · go_wp2_with (at_builtin; refine app_own _ rfl (.tmp 19) (.tmp 22) 36 2 (.int .i64 0) 1 8 rfl Try.underlying36 info2 rfl (by decide) w.heap.size _ (selTo l false k).length (ints (selTo l false k)) _ rfl _ rfl (by simp) rfl ?_ (hown2 _) (by simp; omega) (by omega) (by omega) ?_)
        · exact rfl
        · intro v' w1 hown' honly
          have R : Ids w.heap.size w1 v' (selTo l false (k + 1)) := by
            rw [HQ.out]
            unfold Ids
            rw [ints_append, List.length_append]
            exact hown'
          have hB1 := (bthen hb (balloc _)).trans (honly.below (by simp; omega))
          clear hown' honly hown hown2
          go_wp2_with fail
          exact ⟨⟨k + 1, by go_num, by omega, R, hB1⟩, by simp [intOf]; omega⟩
      · go_wp2_with fail
        refine ⟨⟨k + 1, by go_num, by omega, ?_, bthen hb (balloc _)⟩, by simp [intOf]; omega⟩
        rw [HQ.out]
        exact hown2 _
    · obtain rfl : k = l.length := by omega
      go_wp2_with fail
      go_ret
      exact ⟨_, rfl, hown, hb⟩

theorem acts_walk (A : Option Addr) (n cap : Nat) (xs : List Deed) (w : World) (hin : InActs w A n cap xs) :
    Calls Try.prog 8 #[.slice A n cap] w fun e w' => e = .returned (.bool true) ∧ Below w.heap.size w w' := by
  obtain ⟨hxl, hnc, hcap, hoks, hA⟩ := hin
  obtain ⟨m, hmn, hm200, _, hmin⟩ := min_fact Try.prog n 200 (by omega)
  have hmc : m ≤ cap := by omega
  go_enter Try.func8, Try.ntmps8
  go_wp2_with fail
  refine (awake_any _).mono ?_
  rintro e w1 ⟨rfl, b1⟩
  go_wp2_with fail
  refine (new_any _).mono ?_
  rintro e w2 ⟨rfl, h2, b2⟩
  go_wp2_with fail
  clear hmin
  go_loopw [4, 23] (fun lv i wr => ∃ j : Nat, i = .int .i64 j ∧ j ≤ m ∧ LRow w1.heap.size wr lv (doAll (xs.take j)) ∧ Tab w1.heap.size wr w1.heap.size (doAll (xs.take j)) ∧ Below w1.heap.size w1 wr) (fun _ i _ => m - (intOf i).toNat)
  case atStart => exact ⟨0, rfl, Nat.zero_le _, show World.ownsRow _ _ _ _ _ 0 [] from World.ownsRow_nil _ _ _ _, h2, b2⟩
  case round =>
    clear h2 b2
    obtain ⟨j, rfl, hj, hrow, ht, hb⟩ := hrel
    obtain ⟨hlen, hages⟩ := doAll_take xs j (by omega)
    have hnd := doAll_nodup (xs.take j)
    by_cases hlt : j < m
    · obtain ⟨b, off, rfl, hbw, hcs⟩ := hA (by omega)
      have B0 := bthen b1 hb
      obtain ⟨d0, d1, d2, d3⟩ := acts_later B0 hbw (hcs j (by omega))
      have hok := hoks j (by omega)
      have HD := hid_mk (take_dth xs j (by omega))
      have HS := hid_mk (doAll_snoc (xs.take j) (dth xs j))
      have HG := hid_mk hages
      have HND := hid_mk hnd
      have hlen2 := doL_length (doAll (xs.take j)) (dth xs j)
      clear hcs hA hoks hages hnd
      generalize doAll (xs.take j) = L at *
      generalize hdd : dth xs j = d at *
      obtain ⟨L', hL'⟩ : ∃ L', L' = doL L d := ⟨_, rfl⟩
      have hq1 : (doN L d == doN L d) = true := by simp
      have hq2 : (doB L d == doB L d) = true := by simp
      have hLl : L'.length < 1000000000000 := by rw [hL']; omega
      go_wp2_with fail
      refine (step_any L _ _ d j _ (World.ownsRow.alloc hrow _) hok (by omega) (by omega) (by omega) HG.out HND.out).mono ?_
      rintro e w3 ⟨v3, rfl, h3, b3⟩
      have hbx := below_block b3 (by simp) (heap_alloc_new wr (.cells #[.int .u8 d.kind, .int .u8 d.id, .bool d.runs, .int .i64 d.n] 34))
      have e0 : w3.cell? ⟨wr.heap.size, 0, none⟩ = some (.int .u8 d.kind) := (cell_of_row w3 wr.heap.size 0 _ _ _ hbx).trans rfl
      have e1 : w3.cell? ⟨wr.heap.size, 1, none⟩ = some (.int .u8 d.id) := (cell_of_row w3 wr.heap.size 1 _ _ _ hbx).trans rfl
      have e2 : w3.cell? ⟨wr.heap.size, 2, none⟩ = some (.bool d.runs) := (cell_of_row w3 wr.heap.size 2 _ _ _ hbx).trans rfl
      have e3 : w3.cell? ⟨wr.heap.size, 3, none⟩ = some (.int .i64 d.n) := (cell_of_row w3 wr.heap.size 3 _ _ _ hbx).trans rfl
      have ht3 := (ht.below (balloc _)).below b3
      have hb3 := bthen (bthen hb (balloc _)) b3
      have hs1 := hb.size
      have hrow3 : LRow w1.heap.size w3 v3 (doL L d) := ownsRow_base h3 (by simp; omega)
      clear h3 b3 ht hb hbx hrow
      go_wp2_with fail
      refine (do_any _ _ _ d j _ ht3 hok (by omega) (by omega) HG.out).mono ?_
      rintro e w4 ⟨rfl, h4, o4⟩
      have hrow4 : LRow w1.heap.size w4 v3 (doL L d) := o4.owns hrow3 (by decide)
      have hb4 := hb3.trans (o4.below hb3.size)
      clear hrow3 ht3 hb3 o4 e0 e1 e2 e3
      rw [← hL'] at h4 hrow4
      go_wp2_with fail
      refine (all_any _ _ _ _ h4 hLl).mono ?_
      rintro e w5 ⟨v5, rfl, i5, b5⟩
      have h5 := h4.below b5
      have hrow5 : LRow w1.heap.size w5 v3 L' := ownsRow_below hrow4 b5
      have hb5 := bthen hb4 b5
      clear h4 hrow4 b5 hb4
      go_wp2_with fail
      refine (ids_any _ _ _ true _ hrow5 hLl).mono ?_
      rintro e w6 ⟨v6, rfl, i6, b6⟩
      rw [selTo_all] at i6
      have h6 := h5.below b6
      have hrow6 : LRow w1.heap.size w6 v3 L' := ownsRow_below hrow5 b6
      have hb6 := bthen hb5 b6
      have i5' : Ids _ w6 v5 _ := ownsRow_below i5 b6
      clear h5 hrow5 b6 hb5
      go_wp2_with fail
      refine (same_true _ _ _ _ _ _ i5' i6).mono ?_
      rintro e w7 ⟨rfl, b7⟩
      have h7 := h6.below b7
      have hrow7 : LRow w1.heap.size w7 v3 L' := ownsRow_below hrow6 b7
      have hb7 := bthen hb6 b7
      clear h6 hrow6 b7 hb6 i5 i5' i6
      go_wp2_with fail
      refine (runs_any _ _ _ _ h7 hLl).mono ?_
      rintro e w8 ⟨v8, rfl, i8, b8⟩
      have h8 := h7.below b8
      have hrow8 : LRow w1.heap.size w8 v3 L' := ownsRow_below hrow7 b8
      have hb8 := bthen hb7 b8
      clear h7 hrow7 b8 hb7
      go_wp2_with fail
      refine (ids_any _ _ _ false _ hrow8 hLl).mono ?_
      rintro e w9 ⟨v9, rfl, i9, b9⟩
      rw [selTo_runs] at i9
      have h9 := h8.below b9
      have hrow9 : LRow w1.heap.size w9 v3 L' := ownsRow_below hrow8 b9
      have hb9 := bthen hb8 b9
      have i8' : Ids _ w9 v8 _ := ownsRow_below i8 b9
      clear h8 hrow8 b9 hb8
      go_wp2_with fail
      refine (same_true _ _ _ _ _ _ i8' i9).mono ?_
      rintro e w10 ⟨rfl, b10⟩
      go_wp2_with fail
      exact ⟨⟨j + 1, by go_num, by omega, by rw [HD.out, HS.out, ← hL']; exact ownsRow_below hrow9 b10, by rw [HD.out, HS.out, ← hL']; exact h9.below b10, bthen hb9 b10⟩, by simp [intOf]; omega⟩
    · obtain rfl : j = m := by omega
      go_wp2_with fail
      go_ret
      exact ⟨rfl, bthen b1 hb⟩

end Go.Proofs.Ytjbjkkicfdaljaa
