/- The walks over package turn: what each method does to a table that lies in memory. -/
import Derived.Test.YtjbjkkicfdaljaaBase
import Derived.Test.YtjbjkkicfdaljaaDeedPure
namespace Go.Proofs.Ytjbjkkicfdaljaa
open Go.RowKit
set_option linter.unusedVariables false

theorem info53 : (Try.prog.info? 53).map (fun i => (i.zero, i.size, i.bytes)) = some (some (.agg #[.int .i64 0, .bool false, .int .i64 0]), 3, 24) := by kernel_rfl
theorem info3 : (Try.prog.info? 3).map (fun i => (i.zero, i.size, i.bytes)) = some (some (.int .i64 0), 1, 8) := by kernel_rfl
theorem info2 : (Try.prog.info? 2).map (fun i => (i.zero, i.size, i.bytes)) = some (some (.int .i64 0), 1, 8) := by kernel_rfl

/-- The row of a table's list, in w. -/
def Row (B : Nat) (w : World) (v : Value) (l : List One) : Prop := w.ownsRow B 53 3 v l.length (flat l)
/-- A table at block p. -/
def Tab (B : Nat) (w : World) (p : Nat) (l : List One) : Prop := B ≤ p ∧ ∃ v, w.heap[p]? = some (.cells #[v] 50 (0, 0)) ∧ Row B w v l

/-- An element's three cells. -/
theorem Row.cells {B : Nat} {w : World} {v : Value} {l : List One} (h : Row B w v l) : ∃ A cap, v = .slice A l.length cap ∧ l.length ≤ 9223372036854775807 ∧ (0 < l.length → ∃ g, A = some ⟨g, 0, none⟩ ∧ g < w.heap.size ∧ B ≤ g) ∧
    ∀ i, i < l.length → ∀ g, A = some ⟨g, 0, none⟩ → w.cell? ⟨g, i * 3, none⟩ = some (.int .i64 (ith l i).id) ∧ w.cell? ⟨g, i * 3 + 1, none⟩ = some (.bool (ith l i).runs) ∧ w.cell? ⟨g, i * 3 + 2, none⟩ = some (.int .i64 (ith l i).age) := by
  obtain ⟨A, cap, rfl, h1, h2, h3⟩ := ownsRow_shape h
  refine ⟨A, cap, rfl, by simp only [maxLen] at h2; omega, fun h0 => ?_, fun i hi g hg => ?_⟩
  · obtain ⟨g, rfl, hb, ⟨cs, fr, hh⟩, _⟩ := h3 h0
    exact ⟨g, rfl, lt_of_block hh, hb⟩
  · obtain ⟨g', rfl, hb, _, hc⟩ := h3 (by omega)
    have e : g' = g := by simpa using hg
    subst e
    obtain ⟨a, b, c⟩ := flat_get l i hi
    exact ⟨hc _ _ a, hc _ _ b, hc _ _ c⟩

theorem Row.below {B : Nat} {w w' : World} {v : Value} {l : List One} (h : Row B w v l) (hb : Below w.heap.size w w') : Row B w' v l :=
  h.kept (row := none) ⟨hb.os, hb.tape, hb.output, hb.size, fun i hi _ => hb.block i hi⟩ (by cases v.ownBlock <;> simp)

/-! ### at -/
theorem at1_any (x : One) (q : Nat) (id : Int) (w : World) (hq : w.cell? ⟨q, 0, none⟩ = some (.int .i64 id)) :
    Calls Try.prog 25 #[.agg #[.int .i64 x.id, .bool x.runs, .int .i64 x.age], .pointer (some ⟨q, 0, none⟩)] w fun e w' => e = .returned (.bool (x.id == id)) ∧ Below w.heap.size w w' := by
  have hql : q < w.heap.size := World.block_lt_of_cell? w _ hq
  go_enter Try.func25, Try.ntmps25
  go_wp2
  go_ret
  exact ⟨rfl, (Below.refl _ _).alloc (Nat.le_refl _) _⟩

theorem index_any (l : List One) (B : Nat) (v : Value) (q : Nat) (id : Int) (w : World) (hr : Row B w v l) (hq : w.cell? ⟨q, 0, none⟩ = some (.int .i64 id)) :
    Calls Try.prog 24 #[v, .func (.func 25) #[] #[.pointer (some ⟨q, 0, none⟩)]] w fun e w' => e = .returned (.int .i64 (idxI l id)) ∧ Below w.heap.size w w' := by
  obtain ⟨A, cap, rfl, hm, hA, hc⟩ := hr.cells
  have hql : q < w.heap.size := World.block_lt_of_cell? w _ hq
  go_enter Try.func24, Try.ntmps24
  go_wp2
  go_loopw [8] (fun i wr => ∃ k : Nat, i = .int .i64 k ∧ k ≤ l.length ∧ Hid (∀ j, j < k → ((ith l j).id == id) = false) ∧ Below w.heap.size w wr) (fun i _ => l.length - (intOf i).toNat)
  case atStart => exact ⟨0, rfl, Nat.zero_le _, fun j hj => absurd hj (by omega), Below.refl _ _⟩
  case round =>
    obtain ⟨k, rfl, hk, hno, hb⟩ := hrel
    by_cases hlt : k < l.length
    · obtain ⟨g, rfl, hg, hBg⟩ := hA (by omega)
      obtain ⟨c0, c1, c2⟩ := hc k hlt g rfl
      have d0 := (hb.cell (p := ⟨g, k * 3, none⟩) hg).trans c0
      have d1 := (hb.cell (p := ⟨g, k * 3 + 1, none⟩) hg).trans c1
      have d2 := (hb.cell (p := ⟨g, k * 3 + 2, none⟩) hg).trans c2
      have hq' := (hb.cell (p := ⟨q, 0, none⟩) hql).trans hq
      clear c0 c1 c2 hc hq hA hr
      go_wp2_with (go_at_call 25; refine (at1_any (ith l k) _ _ _ hq').mono ?_; rintro e w' ⟨rfl, hb'⟩)
      · have hyes : ((ith l k).id == id) = true := by assumption
        go_ret
        exact ⟨ret_int (idxI_hit l id k hlt hno.out hyes).symm, bthen hb hb'⟩
      · have hmiss : ((ith l k).id == id) = false := by assumption
        exact ⟨⟨k + 1, by go_num, by omega, hid_succ hno hmiss, bthen hb hb'⟩, by simp [intOf]; omega⟩
    · go_wp2
      obtain rfl : k = l.length := by omega
      go_ret
      exact ⟨ret_int (idxI_miss l id hno.out).symm, hb⟩

theorem at_any (l : List One) (B p : Nat) (id : Int) (w : World) (h : Tab B w p l) :
    Calls Try.prog 21 #[.pointer (some ⟨p, 0, none⟩), .int .i64 id] w fun e w' => e = .returned (.int .i64 (idxI l id)) ∧ Below w.heap.size w w' := by
  obtain ⟨hBp, v, hp, hr⟩ := h
  obtain ⟨A, cap, rfl, _, _, _⟩ := ownsRow_shape hr
  have hc := cell_of_one hp
  have hpl := lt_of_block hp
  go_enter Try.func21, Try.ntmps21
  go_wp2_with (go_at_call 24; refine (index_any l B _ _ id _ (World.ownsRow.alloc hr _) (by simp)).mono ?_; rintro e w' ⟨rfl, hb⟩)
  go_ret
  exact ⟨rfl, bnew _ hb⟩

/-! ### Tables in other worlds -/
theorem Tab.below {B : Nat} {w w' : World} {p : Nat} {l : List One} (h : Tab B w p l) (hb : Below w.heap.size w w') : Tab B w' p l := by
  obtain ⟨hB, v, hp, hr⟩ := h
  exact ⟨hB, v, below_block hb (lt_of_block hp) hp, hr.below hb⟩
theorem Tab.only {Ts : List TypeId} {B : Nat} {w w' : World} {p : Nat} {l : List One} (h : Tab B w p l) {B' : Nat} (ho : Only Ts B' w w') (h1 : 50 ∉ Ts) (h2 : 53 ∉ Ts) : Tab B w' p l := by
  obtain ⟨hB, v, hp, hr⟩ := h
  exact ⟨hB, v, ho.at_ hp h1, ho.owns hr h2⟩
theorem Tab.base {B : Nat} {w : World} {p : Nat} {l : List One} (h : Tab B w p l) : B ≤ w.heap.size := by
  obtain ⟨hB, v, hp, hr⟩ := h
  have := lt_of_block hp
  omega

/-- The list of a table is stored anew. -/
theorem tab_store {B : Nat} {w w' : World} {p : Nat} {v v' : Value} {l : List One} (hB : B ≤ p) (hp : w.heap[p]? = some (.cells #[v] 50 (0, 0))) (ho : Only [53] B w w') (hr : Row B w' v' l) :
    Tab B (w'.setCell ⟨p, 0, none⟩ v') p l ∧ Only [50, 53] B w (w'.setCell ⟨p, 0, none⟩ v') := by
  have hp' := ho.at_ hp (by decide)
  refine ⟨⟨hB, v', one_setCell hp', ?_⟩, (ho.wider (by decide)).trans (Only.setCell _ hB (T := 50) (by decide) ⟨_, _, hp'⟩)⟩
  exact ownsRow_setCell_other hr (ownsRow_ne hr hp' (by decide)) _

theorem flat_one (x : One) : flat [x] = [.int .i64 x.id, .bool x.runs, .int .i64 x.age] := rfl


theorem add_any (l : List One) (B p : Nat) (id : Int) (r : Bool) (w : World) (h : Tab B w p l) (hl : l.length < 1000000000000) :
    Calls Try.prog 11 #[.pointer (some ⟨p, 0, none⟩), .int .i64 id, .bool r] w fun e w' => e = .returned (.bool (!hasId l id)) ∧ Tab B w' p (addL l id r) ∧ Only [50, 53] B w w' := by
  by_cases hi : idx l id < l.length
  · have h1 : idxI l id = (idx l id : Int) := by unfold idxI; rw [if_pos hi]
    have h0 : (0 : Int) ≤ idxI l id := by omega
    have h2 := (idx_lt_iff l id).1 hi
    have HA : Hid (addL l id r = l) := by unfold addL; rw [if_pos hi]; exact rfl
    have H2 := hid_mk h2
    clear h1 h2
    go_enter Try.func11, Try.ntmps11
    go_wp2_with (go_at_call 21; refine (at_any l B _ _ _ h).mono ?_; rintro e w' ⟨rfl, hb⟩)
    go_ret
    refine ⟨ret_bool (by rw [H2.out]; rfl), ?_, .of_below hb⟩
    rw [HA.out]
    exact h.below hb
  · have h1 : idxI l id = -1 := by unfold idxI; rw [if_neg hi]
    have h0 : ¬ (0 : Int) ≤ idxI l id := by omega
    have h2 : hasId l id = false := by rw [← Bool.not_eq_true, ← idx_lt_iff]; exact hi
    have HA : Hid (addL l id r = l ++ [⟨id, r, 0⟩]) := by unfold addL; rw [if_neg hi]; exact rfl
    have H2 := hid_mk h2
    clear h1 h2
    go_enter Try.func11, Try.ntmps11
    go_wp2_with fail
    refine (at_any l B _ _ _ h).mono ?_
    rintro e w' ⟨rfl, hb⟩
    obtain ⟨hB, v, hp, hr⟩ := h.below hb
    obtain ⟨A, cap, rfl, _, _, _⟩ := ownsRow_shape hr
    have hc := cell_of_one hp
    have hpl := lt_of_block hp
    go_wp2_with (at_builtin; refine app_own _ rfl (.tmp 15) (.tmp 19) 48 53 (.agg #[.int .i64 0, .bool false, .int .i64 0]) 3 24 rfl Try.underlying48 info53 rfl (by decide) B _ l.length (flat l) _ rfl _ rfl (by simp) rfl ?_ hr (by omega) (by omega) (by omega) ?_)
    · exact ⟨rfl, rfl, rfl⟩
    · intro v' w2 hown honly
      obtain ⟨A', cap', rfl, _, _, _⟩ := ownsRow_shape hown
      have hown' : Row B w2 (.slice A' (l.length + 1) cap') (l ++ [⟨id, r, 0⟩]) := by unfold Row; rw [flat_append, flat_one, List.length_append]; exact hown
      clear hown
      have hc' := cell_of_one (honly.at_ hp (by decide))
      have hf' := free_of_one (honly.at_ hp (by decide))
      go_wp2
      go_ret
      have HS := tab_store hB hp honly hown'
      refine ⟨ret_bool (by rw [H2.out]; rfl), ?_, (Only.of_below hb).trans HS.2⟩
      rw [HA.out]
      exact HS.1

/-! ### places -/
def nums (l : List Nat) : List Value := l.map fun i : Nat => .int .i64 (i : Int)
theorem nums_length (l : List Nat) : (nums l).length = l.length := by simp [nums]
theorem nums_append (a b : List Nat) : nums (a ++ b) = nums a ++ nums b := by simp [nums]
theorem nums_get (l : List Nat) (j : Nat) (h : j < l.length) : (nums l)[j]? = some (.int .i64 (nth l j : Int)) := by
  rw [nth_get l j h]; simp [nums, h]
/-- A row of places. -/
def Nums (B : Nat) (w : World) (v : Value) (l : List Nat) : Prop := w.ownsRow B 3 1 v l.length (nums l)

theorem places_any (l : List One) (B p : Nat) (w : World) (h : Tab B w p l) (hl : l.length < 1000000000000) :
    Calls Try.prog 22 #[.pointer (some ⟨p, 0, none⟩)] w fun e w' => ∃ v, e = .returned v ∧ Nums w.heap.size w' v (plc l) ∧ Below w.heap.size w w' := by
  obtain ⟨hBp, v, hp, hr⟩ := h
  obtain ⟨A, cap, rfl, hm, hA, hcs⟩ := hr.cells
  have hc := cell_of_one hp
  have hpl := lt_of_block hp
  go_enter Try.func22, Try.ntmps22
  go_wp2
  go_loopw [3, 11] (fun o i wr => ∃ k : Nat, i = .int .i64 k ∧ k ≤ l.length ∧ Nums w.heap.size wr o (plcTo l k) ∧ Below w.heap.size w wr) (fun _ i _ => l.length - (intOf i).toNat)
  case atStart => exact ⟨0, rfl, Nat.zero_le _, show World.ownsRow _ _ _ _ _ 0 [] from World.ownsRow_nil _ _ _ _, Below.refl _ _⟩
  case round =>
    obtain ⟨k, rfl, hk, hown, hb⟩ := hrel
    have hpk := plcTo_length l k
    by_cases hlt : k < l.length
    · obtain ⟨g, rfl, hg, hBg⟩ := hA (by omega)
      obtain ⟨c0, c1, c2⟩ := hcs k hlt g rfl
      have d0 := (hb.cell (p := ⟨g, k * 3, none⟩) hg).trans c0
      have d1 := (hb.cell (p := ⟨g, k * 3 + 1, none⟩) hg).trans c1
      have d2 := (hb.cell (p := ⟨g, k * 3 + 2, none⟩) hg).trans c2
      have hsz := hb.size
      clear c0 c1 c2 hcs hA hr hc
      have HP := hid_mk (plcTo_succ l k)
      cases hrun : (ith l k).runs
      · have HR := hid_mk hrun
        go_wp2
        refine ⟨⟨k + 1, by go_num, by omega, ?_, bthen hb (balloc _)⟩, by simp [intOf]; omega⟩
        rw [HP.out, HR.out]
        simp only [Bool.false_eq_true, if_false, List.append_nil]
        exact World.ownsRow.alloc hown _
      · have HR := hid_mk hrun
        have hown2 := fun o => World.ownsRow.alloc hown o
        go_wp2_with (at_builtin; refine app_own _ rfl (.tmp 18) (.tmp 20) 22 3 (.int .i64 0) 1 8 rfl Try.underlying22 info3 rfl (by decide) w.heap.size _ (plcTo l k).length (nums (plcTo l k)) _ rfl _ rfl (by simp) rfl ?_ (hown2 _) (by simp; omega) (by omega) (by omega) ?_)
        · exact rfl
        · intro v' w1 hown' honly
          have R : Nums w.heap.size w1 v' (plcTo l (k + 1)) := by
            rw [HP.out, HR.out]
            simp only [if_true]
            unfold Nums
            rw [nums_append, List.length_append]
            exact hown'
          have hB1 := (bthen hb (balloc _)).trans (honly.below (by simp; omega))
          clear hown' honly hown hown2
          go_wp2
          exact ⟨⟨k + 1, by go_num, by omega, R, hB1⟩, by simp [intOf]; omega⟩
    · obtain rfl : k = l.length := by omega
      go_wp2
      go_ret
      exact ⟨_, rfl, hown, hb⟩

/-! ### All, Runs -/
/-- A row of numbers (of type int64). -/
def Ids (B : Nat) (w : World) (v : Value) (l : List Int) : Prop := w.ownsRow B 2 1 v l.length (ints l)
/-- An element's cells, in a later world. -/
theorem cells_later {w wr : World} {g k : Nat} {x : One} (hb : Below w.heap.size w wr) (hg : g < w.heap.size)
    (h : w.cell? ⟨g, k * 3, none⟩ = some (.int .i64 x.id) ∧ w.cell? ⟨g, k * 3 + 1, none⟩ = some (.bool x.runs) ∧ w.cell? ⟨g, k * 3 + 2, none⟩ = some (.int .i64 x.age)) :
    wr.cell? ⟨g, k * 3, none⟩ = some (.int .i64 x.id) ∧ wr.cell? ⟨g, k * 3 + 1, none⟩ = some (.bool x.runs) ∧ wr.cell? ⟨g, k * 3 + 2, none⟩ = some (.int .i64 x.age) :=
  ⟨(hb.cell (p := ⟨g, k * 3, none⟩) hg).trans h.1, (hb.cell (p := ⟨g, k * 3 + 1, none⟩) hg).trans h.2.1, (hb.cell (p := ⟨g, k * 3 + 2, none⟩) hg).trans h.2.2⟩

/-- A row of places: its shape, its cells. -/
theorem Nums.cells {B : Nat} {w : World} {v : Value} {l : List Nat} (h : Nums B w v l) : ∃ A cap, v = .slice A l.length cap ∧ l.length ≤ 9223372036854775807 ∧ (0 < l.length → ∃ g, A = some ⟨g, 0, none⟩ ∧ g < w.heap.size ∧ B ≤ g) ∧
    ∀ i, i < l.length → ∀ g, A = some ⟨g, 0, none⟩ → w.cell? ⟨g, i, none⟩ = some (.int .i64 (nth l i : Int)) := by
  obtain ⟨A, cap, rfl, h1, h2, h3⟩ := ownsRow_shape h
  refine ⟨A, cap, rfl, by simp only [maxLen] at h2; omega, fun h0 => ?_, fun i hi g hg => ?_⟩
  · obtain ⟨g, rfl, hb, ⟨cs, fr, hh⟩, _⟩ := h3 h0
    exact ⟨g, rfl, lt_of_block hh, hb⟩
  · obtain ⟨g', rfl, hb, _, hc⟩ := h3 (by omega)
    have e : g' = g := by simpa using hg
    subst e
    exact hc _ _ (nums_get l i hi)

theorem Ids.cells {B : Nat} {w : World} {v : Value} {l : List Int} (h : Ids B w v l) : ∃ A cap, v = .slice A l.length cap ∧ l.length ≤ 9223372036854775807 ∧ (0 < l.length → ∃ g, A = some ⟨g, 0, none⟩ ∧ g < w.heap.size ∧ B ≤ g) ∧
    ∀ i, i < l.length → ∀ g, A = some ⟨g, 0, none⟩ → w.cell? ⟨g, i, none⟩ = some (.int .i64 (l.getD i 0)) := by
  obtain ⟨A, cap, rfl, h1, h2, h3⟩ := ownsRow_shape h
  refine ⟨A, cap, rfl, by simp only [maxLen] at h2; omega, fun h0 => ?_, fun i hi g hg => ?_⟩
  · obtain ⟨g, rfl, hb, ⟨cs, fr, hh⟩, _⟩ := h3 h0
    exact ⟨g, rfl, lt_of_block hh, hb⟩
  · obtain ⟨g', rfl, hb, _, hc⟩ := h3 (by omega)
    have e : g' = g := by simpa using hg
    subst e
    refine hc _ _ ?_
    rw [getD_get l 0 i hi]; simp [ints, hi]

theorem Nums.at_ {B g cap : Nat} {w : World} {l : List Nat} (h : Nums B w (.slice (some ⟨g, 0, none⟩) l.length cap) l) (i : Nat) (hi : i < l.length) : w.cell? ⟨g, i, none⟩ = some (.int .i64 (nth l i : Int)) :=
  (World.ownsRow.cellAt h i (by omega)).trans (nums_get l i hi)

end Go.Proofs.Ytjbjkkicfdaljaa
