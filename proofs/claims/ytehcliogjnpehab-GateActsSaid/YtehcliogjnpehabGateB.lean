/- The walks over package gate: New, Inside, Waiting, Ask. -/
import Derived.Test.YtehcliogjnpehabGateA
namespace Go.Proofs.Ytehcliogjnpehab
open Go.RowKit
set_option linter.unusedVariables false

/-! ### A gate in memory -/
def GateAt (B : Nat) (w : World) (p : Nat) (v1 v2 : Value) (g : G) : Prop :=
  B ≤ p ∧ w.heap[p]? = some (.cells #[.int .i64 (g.t : Int), .int .i64 (g.r : Int), v1, v2] 38 (0, 0)) ∧ Ids B w v1 g.i ∧ Ids B w v2 g.w ∧ (∀ k, v1.ownBlock = some k → v2.ownBlock ≠ some k)
def Foot (p : Nat) (v1 v2 : Value) (k : Nat) : Prop := k = p ∨ own v1 k ∨ own v2 k
def Gate (B : Nat) (w : World) (p : Nat) (g : G) (F : Nat → Prop) : Prop := ∃ v1 v2, F = Foot p v1 v2 ∧ GateAt B w p v1 v2 g

theorem Gate.foot {B : Nat} {w : World} {p : Nat} {g : G} {F : Nat → Prop} (h : Gate B w p g F) (k : Nat) (hk : F k) : B ≤ k ∧ k < w.heap.size := by
  obtain ⟨v1, v2, rfl, hB, hp, h1, h2, _⟩ := h
  rcases hk with rfl | hk | hk
  · exact ⟨hB, lt_of_block hp⟩
  · exact own_lt h1 k hk
  · exact own_lt h2 k hk
theorem Gate.lt {B : Nat} {w : World} {p : Nat} {g : G} {F : Nat → Prop} (h : Gate B w p g F) : p < w.heap.size ∧ B ≤ p := by
  obtain ⟨v1, v2, rfl, hB, hp, h1, h2, _⟩ := h
  exact ⟨lt_of_block hp, hB⟩
theorem Gate.other {B : Nat} {w w' : World} {p : Nat} {g : G} {F H H' : Nat → Prop} (h : Gate B w p g F) (hm : Mv H H' w w') (ha : ∀ k, F k → ¬ H k) : Gate B w' p g F := by
  obtain ⟨v1, v2, rfl, hB, hp, h1, h2, h3⟩ := h
  exact ⟨v1, v2, rfl, hB, hm.at_ hp (ha p (.inl rfl)), hm.row h1 fun k hk => ha k (.inr (.inl hk)), hm.row h2 fun k hk => ha k (.inr (.inr hk)), h3⟩
theorem Gate.below {B : Nat} {w w' : World} {p : Nat} {g : G} {F : Nat → Prop} (h : Gate B w p g F) (hb : Below w.heap.size w w') : Gate B w' p g F :=
  h.other (H := fun _ => False) (H' := fun _ => False) (.of_below hb) fun _ _ h => h
theorem GateAt.below {B : Nat} {w w' : World} {p : Nat} {v1 v2 : Value} {g : G} (h : GateAt B w p v1 v2 g) (hb : Below w.heap.size w w') : GateAt B w' p v1 v2 g := by
  obtain ⟨hB, hp, h1, h2, h3⟩ := h
  exact ⟨hB, below_block hb (lt_of_block hp) hp, ownsRow_below h1 hb, ownsRow_below h2 hb, h3⟩
theorem GateAt.cells {B : Nat} {w : World} {p : Nat} {v1 v2 : Value} {g : G} (h : GateAt B w p v1 v2 g) :
    w.cell? ⟨p, 0, none⟩ = some (.int .i64 (g.t : Int)) ∧ w.cell? ⟨p, 1, none⟩ = some (.int .i64 (g.r : Int)) ∧ w.cell? ⟨p, 2, none⟩ = some v1 ∧ w.cell? ⟨p, 3, none⟩ = some v2 := by
  obtain ⟨hB, hp, _⟩ := h
  exact ⟨(cell_of_row w p 0 _ _ _ hp).trans rfl, (cell_of_row w p 1 _ _ _ hp).trans rfl, (cell_of_row w p 2 _ _ _ hp).trans rfl, (cell_of_row w p 3 _ _ _ hp).trans rfl⟩
theorem Gate.size {B : Nat} {w : World} {p : Nat} {g : G} {F : Nat → Prop} (h : Gate B w p g F) : B ≤ w.heap.size := by have := h.lt; omega
/-- What a deed at a gate leaves as it was. -/
theorem Gate.moved {B : Nat} {w w' : World} {p : Nat} {g : G} {F F' : Nat → Prop} (h : Gate B w p g F) (hm : Mv F F' w w') : Below B w w' := hm.below (fun k hk => (h.foot k hk).1) h.size

/-! ### The clamped numbers -/
theorem clamp_run (P : Program) (x : Int) (lo hi : Int) (n : Nat) (hn : (n : Int) = if hi < (if x < lo then lo else x) then hi else (if x < lo then lo else x)) :
    ∃ m, (∀ ats ty W, (Builtin.max_ ats ty #[.int .i64 x, .int .i64 lo]).run P W = .ok (.int .i64 m) W) ∧ (∀ ats ty W, (Builtin.min_ ats ty #[.int .i64 m, .int .i64 hi]).run P W = .ok (.int .i64 (n : Int)) W) := by
  refine ⟨if x < lo then lo else x, fun ats ty W => ?_, fun ats ty W => ?_⟩
  · simp only [Builtin.max_, List.foldlM_cons, List.foldlM_nil, Builtin.max2]; rfl
  · simp only [Builtin.min_, List.foldlM_cons, List.foldlM_nil, Builtin.min2]
    rw [hn]; rfl
theorem clampT_run (P : Program) (x : Int) : ∃ m, (∀ ats ty W, (Builtin.max_ ats ty #[.int .i64 x, .int .i64 1]).run P W = .ok (.int .i64 m) W) ∧ (∀ ats ty W, (Builtin.min_ ats ty #[.int .i64 m, .int .i64 16]).run P W = .ok (.int .i64 (clampT x : Int)) W) := by
  refine clamp_run P x 1 16 _ ?_
  unfold clampT
  split <;> (try split) <;> omega
theorem clampR_run (P : Program) (x : Int) : ∃ m, (∀ ats ty W, (Builtin.max_ ats ty #[.int .i64 x, .int .i64 0]).run P W = .ok (.int .i64 m) W) ∧ (∀ ats ty W, (Builtin.min_ ats ty #[.int .i64 m, .int .i64 64]).run P W = .ok (.int .i64 (clampR x : Int)) W) := by
  refine clamp_run P x 0 64 _ ?_
  unfold clampR
  split <;> (try split) <;> omega

theorem new_any (t r : Int) (w : World) :
    Calls Try.prog 5 #[.int .i64 t, .int .i64 r] w fun e w' => e = .returned (.pointer (some ⟨w.heap.size, 0, none⟩)) ∧ (∃ F, Gate w.heap.size w' w.heap.size (newG t r) F) ∧ Below w.heap.size w w' := by
  obtain ⟨m1, ha, hb⟩ := clampT_run Try.prog t
  obtain ⟨m2, hc, hd⟩ := clampR_run Try.prog r
  go_enter Try.func5, Try.ntmps5
  go_wp2_with fail
  go_ret
  exact ⟨rfl, ⟨_, .slice none 0 0, .slice none 0 0, rfl, Nat.le_refl _, heap_alloc_new w _, Ids.nil _ _, Ids.nil _ _, fun k hk => by simp [Value.ownBlock] at hk⟩, balloc _⟩

theorem inside_any (g : G) (B p : Nat) (F : Nat → Prop) (w : World) (h : Gate B w p g F) (hok : g.ok) :
    Calls Try.prog 11 #[.pointer (some ⟨p, 0, none⟩)] w fun e w' => ∃ v, e = .returned v ∧ Ids w.heap.size w' v g.i ∧ Below w.heap.size w w' := by
  obtain ⟨v1, v2, rfl, hB, hp, h1, h2, _⟩ := h
  have hl1 := hok.it
  have hl2 := hok.t16
  have c2 : w.cell? ⟨p, 2, none⟩ = some v1 := (cell_of_row w p 2 _ _ _ hp).trans rfl
  obtain ⟨A, cap, rfl, _, _, _⟩ := ownsRow_shape h1
  go_enter Try.func11, Try.ntmps11
  go_wp2_with fail
  refine (clone_any g.i B _ _ h1 (by omega)).mono ?_
  rintro e w1 ⟨v, rfl, hv, b1⟩
  go_wp2_with fail
  go_ret
  exact ⟨_, rfl, hv, b1⟩

theorem waiting_any (g : G) (B p : Nat) (F : Nat → Prop) (w : World) (h : Gate B w p g F) (hok : g.ok) :
    Calls Try.prog 12 #[.pointer (some ⟨p, 0, none⟩)] w fun e w' => ∃ v, e = .returned v ∧ Ids w.heap.size w' v g.w ∧ Below w.heap.size w w' := by
  obtain ⟨v1, v2, rfl, hB, hp, h1, h2, _⟩ := h
  have hl1 := hok.wr
  have hl2 := hok.r64
  have c2 : w.cell? ⟨p, 3, none⟩ = some v2 := (cell_of_row w p 3 _ _ _ hp).trans rfl
  obtain ⟨A, cap, rfl, _, _, _⟩ := ownsRow_shape h2
  go_enter Try.func12, Try.ntmps12
  go_wp2_with fail
  refine (clone_any g.w B _ _ h2 (by omega)).mono ?_
  rintro e w1 ⟨v, rfl, hv, b1⟩
  go_wp2_with fail
  go_ret
  exact ⟨_, rfl, hv, b1⟩

/-! ### The list of those inside, of those who wait, is stored anew -/
theorem Apart_of {v : Value} {F : Nat → Prop} (h : ∀ k, v.ownBlock = some k → ¬ F k) : Apart v F := h
theorem store_i {B : Nat} {w w' : World} {p : Nat} {v1 v2 v1' : Value} {g : G} {l : List Int} (h : GateAt B w p v1 v2 g) (hm : Mv (own v1) (own v1') w w') (hr : Ids B w' v1' l) :
    GateAt B (w'.setCell ⟨p, 2, none⟩ v1') p v1' v2 ⟨g.t, g.r, l, g.w⟩ ∧ Mv (Foot p v1 v2) (Foot p v1' v2) w (w'.setCell ⟨p, 2, none⟩ v1') ∧ w'.cell? ⟨p, 2, none⟩ = some v1 ∧ w'.frozen? ⟨p, 2, none⟩ = false ∧ (w'.cell? ⟨p, 0, none⟩ = some (.int .i64 (g.t : Int)) ∧ w'.cell? ⟨p, 1, none⟩ = some (.int .i64 (g.r : Int)) ∧ w'.cell? ⟨p, 2, none⟩ = some v1 ∧ w'.cell? ⟨p, 3, none⟩ = some v2) := by
  obtain ⟨hB, hp, h1, h2, h3⟩ := h
  have hpn : ¬ own v1 p := fun hk => absurd hk (ownsRow_ne h1 hp (by decide))
  have hp' := hm.at_ hp hpn
  have hpn' : v1'.ownBlock ≠ some p := ownsRow_ne hr hp' (by decide)
  have ha2 : Apart v2 (own v1) := fun k hk hf => h3 k hf hk
  have h2' := hm.row h2 ha2
  refine ⟨⟨hB, ?_, ?_, ?_, ?_⟩, ?_, ?_, ?_, (cell_of_row w' p 0 _ _ _ hp').trans rfl, (cell_of_row w' p 1 _ _ _ hp').trans rfl, (cell_of_row w' p 2 _ _ _ hp').trans rfl, (cell_of_row w' p 3 _ _ _ hp').trans rfl⟩
  · exact block_setCell hp' 2 v1' (by simp)
  · exact ownsRow_setCell_other hr (by simpa using hpn') _
  · exact ownsRow_setCell_other h2' (by simpa using ownsRow_ne h2' hp' (by decide)) _
  · intro k hk hk2
    rcases hm.new k hk with h4 | h4
    · exact h3 k h4 hk2
    · have := (own_lt h2 k hk2).2; omega
  · refine Mv.trans (b := w') (F' := Foot p v1' v2) (hm.wider (fun k hk => .inr (.inl hk)) fun k hk => ?_) (Mv.setCell _ (.inl rfl))
    rcases hk with rfl | hk | hk
    · exact .inr (.inl rfl)
    · exact .inl hk
    · exact .inr (.inr (.inr hk))
  · exact (cell_of_row w' p 2 _ _ _ hp').trans rfl
  · simp [World.frozen?, hp']
theorem store_w {B : Nat} {w w' : World} {p : Nat} {v1 v2 v2' : Value} {g : G} {l : List Int} (h : GateAt B w p v1 v2 g) (hm : Mv (own v2) (own v2') w w') (hr : Ids B w' v2' l) :
    GateAt B (w'.setCell ⟨p, 3, none⟩ v2') p v1 v2' ⟨g.t, g.r, g.i, l⟩ ∧ Mv (Foot p v1 v2) (Foot p v1 v2') w (w'.setCell ⟨p, 3, none⟩ v2') ∧ w'.cell? ⟨p, 3, none⟩ = some v2 ∧ w'.frozen? ⟨p, 3, none⟩ = false ∧ (w'.cell? ⟨p, 0, none⟩ = some (.int .i64 (g.t : Int)) ∧ w'.cell? ⟨p, 1, none⟩ = some (.int .i64 (g.r : Int)) ∧ w'.cell? ⟨p, 2, none⟩ = some v1 ∧ w'.cell? ⟨p, 3, none⟩ = some v2) := by
  obtain ⟨hB, hp, h1, h2, h3⟩ := h
  have hpn : ¬ own v2 p := fun hk => absurd hk (ownsRow_ne h2 hp (by decide))
  have hp' := hm.at_ hp hpn
  have hpn' : v2'.ownBlock ≠ some p := ownsRow_ne hr hp' (by decide)
  have ha2 : Apart v1 (own v2) := fun k hk hf => h3 k hk hf
  have h1' := hm.row h1 ha2
  refine ⟨⟨hB, ?_, ?_, ?_, ?_⟩, ?_, ?_, ?_, (cell_of_row w' p 0 _ _ _ hp').trans rfl, (cell_of_row w' p 1 _ _ _ hp').trans rfl, (cell_of_row w' p 2 _ _ _ hp').trans rfl, (cell_of_row w' p 3 _ _ _ hp').trans rfl⟩
  · exact block_setCell hp' 3 v2' (by simp)
  · exact ownsRow_setCell_other h1' (by simpa using ownsRow_ne h1' hp' (by decide)) _
  · exact ownsRow_setCell_other hr (by simpa using hpn') _
  · intro k hk hk2
    rcases hm.new k hk2 with h4 | h4
    · exact h3 k hk h4
    · have := (own_lt h1 k hk).2; omega
  · refine Mv.trans (b := w') (F' := Foot p v1 v2') (hm.wider (fun k hk => .inr (.inr hk)) fun k hk => ?_) (Mv.setCell _ (.inl rfl))
    rcases hk with rfl | hk | hk
    · exact .inr (.inl rfl)
    · exact .inr (.inr (.inl hk))
    · exact .inl hk
  · exact (cell_of_row w' p 3 _ _ _ hp').trans rfl
  · simp [World.frozen?, hp']

set_option maxHeartbeats 1000000 in
theorem ask_any (g : G) (B p : Nat) (F : Nat → Prop) (x : Int) (w : World) (h : Gate B w p g F) (hok : g.ok) :
    Calls Try.prog 7 #[.pointer (some ⟨p, 0, none⟩), .int .i64 x] w fun e w' => e = .returned (.int .i64 (askA g x)) ∧ ∃ F', Gate B w' p (askG g x) F' ∧ Mv F F' w w' := by
  have HB := hid_mk h
  obtain ⟨v1, v2, rfl, hG⟩ := h
  have hl1 := hok.it
  have hl2 := hok.t16
  have hl3 := hok.wr
  have hl4 := hok.r64
  obtain ⟨A1, cap1, rfl, _, _, _⟩ := ownsRow_shape hG.2.2.1
  obtain ⟨A2, cap2, rfl, _, _, _⟩ := ownsRow_shape hG.2.2.2.1
  obtain ⟨_, _, c2, _⟩ := hG.cells
  have h1 := hG.2.2.1
  have hsz := HB.out.size
  by_cases hi : x ∈ g.i
  · have HA : Hid (askA g x = 1) := if_pos hi
    have HN : Hid (askG g x = g) := if_pos hi
    have hd := decide_eq_true hi
    go_enter Try.func7, Try.ntmps7
    go_wp2_with fail
    refine (contains_any g.i B _ x _ h1).mono ?_
    rintro e w1 ⟨rfl, b1⟩
    rw [hd]
    go_wp2_with fail
    go_ret
    exact ⟨ret_int HA.out.symm, _, by rw [HN.out]; exact HB.out.below b1, .of_below b1⟩
  · have hd := decide_eq_false hi
    by_cases hw : x ∈ g.w
    · have HA : Hid (askA g x = 2) := (if_neg hi).trans (if_pos hw)
      have HN : Hid (askG g x = g) := (if_neg hi).trans (if_pos hw)
      have hd2 := decide_eq_true hw
      go_enter Try.func7, Try.ntmps7
      go_wp2_with fail
      refine (contains_any g.i B _ x _ h1).mono ?_
      rintro e w1 ⟨rfl, b1⟩
      rw [hd]
      have hG1 := hG.below b1
      obtain ⟨d0, d1, d2, d3⟩ := hG1.cells
      go_wp2_with fail
      refine (contains_any g.w B _ x _ hG1.2.2.2.1).mono ?_
      rintro e w2 ⟨rfl, b2⟩
      rw [hd2]
      go_wp2_with fail
      go_ret
      exact ⟨ret_int HA.out.symm, _, by rw [HN.out]; exact HB.out.below (bthen b1 b2), .of_below (bthen b1 b2)⟩
    · have hd2 := decide_eq_false hw
      have hA0 : askA g x = if g.i.length < g.t then 1 else if g.w.length < g.r then 2 else 0 := (if_neg hi).trans (if_neg hw)
      have hN0 : askG g x = if g.i.length < g.t then ⟨g.t, g.r, g.i ++ [x], g.w⟩ else if g.w.length < g.r then ⟨g.t, g.r, g.i, g.w ++ [x]⟩ else g := (if_neg hi).trans (if_neg hw)
      by_cases ht : g.i.length < g.t
      · have HA : Hid (askA g x = 1) := hA0.trans (if_pos ht)
        have HN : Hid (askG g x = ⟨g.t, g.r, g.i ++ [x], g.w⟩) := hN0.trans (if_pos ht)
        clear hA0 hN0
        go_enter Try.func7, Try.ntmps7
        go_wp2_with fail
        refine (contains_any g.i B _ x _ h1).mono ?_
        rintro e w1 ⟨rfl, b1⟩
        rw [hd]
        have hG1 := hG.below b1
        obtain ⟨d0, d1, d2, d3⟩ := hG1.cells
        go_wp2_with fail
        refine (contains_any g.w B _ x _ hG1.2.2.2.1).mono ?_
        rintro e w2 ⟨rfl, b2⟩
        rw [hd2]
        have hG2 := hG1.below b2
        obtain ⟨e0, e1, e2, e3⟩ := hG2.cells
        have hb2 := bthen b1 b2
        have hs2 := hb2.size
        have hpl := lt_of_block hG2.2.1
        clear d0 d1 d2 d3 hG1 b1 b2 c2 hG h1
        go_wp2_with fail
        go_quiet (fail)
        go_wp2_with (at_builtin; refine app_one _ rfl (.tmp 34) (.tmp 36) 26 2 (.int .i64 0) 1 8 rfl Try.underlying26 info2 rfl (by decide) B _ g.i.length (ints g.i) _ rfl _ rfl (by simp) rfl ?_ hG2.2.2.1 (by simp; omega) (by omega) (by omega) ?_)
        · exact rfl
        · intro v3 w3 hown3 hm3
          obtain ⟨A3, cap3, rfl, _, _, _⟩ := ownsRow_shape hown3
          have hm4 : Mv (own (.slice A1 g.i.length cap1)) (own (.slice A3 (g.i.length + 1) cap3)) w2 w3 := ⟨hm3.os, hm3.tape, hm3.output, hm3.size, hm3.block, hm3.new⟩
          have hrow : Ids B w3 (.slice A3 (g.i.length + 1) cap3) (g.i ++ [x]) := by unfold Ids; rw [ints_append, List.length_append]; exact hown3
          obtain ⟨s1, s2, s3, s4, _⟩ := store_i hG2 hm4 hrow
          have hHS1 := hid_mk s1
          have hHS2 := hid_mk s2
          clear s1 s2 hown3 hm3 hm4 hrow e0 e1 e2 e3
          go_wp2_with fail
          go_ret
          exact ⟨ret_int HA.out.symm, _, by rw [HN.out]; exact ⟨_, _, rfl, hHS1.out⟩, (Mv.of_below hb2).trans hHS2.out⟩
      · by_cases hr : g.w.length < g.r
        · have HA : Hid (askA g x = 2) := (hA0.trans (if_neg ht)).trans (if_pos hr)
          have HN : Hid (askG g x = ⟨g.t, g.r, g.i, g.w ++ [x]⟩) := (hN0.trans (if_neg ht)).trans (if_pos hr)
          clear hA0 hN0
          go_enter Try.func7, Try.ntmps7
          go_wp2_with fail
          refine (contains_any g.i B _ x _ h1).mono ?_
          rintro e w1 ⟨rfl, b1⟩
          rw [hd]
          have hG1 := hG.below b1
          obtain ⟨d0, d1, d2, d3⟩ := hG1.cells
          go_wp2_with fail
          refine (contains_any g.w B _ x _ hG1.2.2.2.1).mono ?_
          rintro e w2 ⟨rfl, b2⟩
          rw [hd2]
          have hG2 := hG1.below b2
          obtain ⟨e0, e1, e2, e3⟩ := hG2.cells
          have hb2 := bthen b1 b2
          have hs2 := hb2.size
          have hpl := lt_of_block hG2.2.1
          clear d0 d1 d2 d3 hG1 b1 b2 c2 hG h1
          go_wp2_with fail
          go_quiet (fail)
          go_wp2_with fail
          go_quiet (fail)
          go_wp2_with (at_builtin; refine app_one _ rfl (.tmp 55) (.tmp 57) 26 2 (.int .i64 0) 1 8 rfl Try.underlying26 info2 rfl (by decide) B _ g.w.length (ints g.w) _ rfl _ rfl (by simp) rfl ?_ hG2.2.2.2.1 (by simp; omega) (by omega) (by omega) ?_)
          · exact rfl
          · intro v3 w3 hown3 hm3
            obtain ⟨A3, cap3, rfl, _, _, _⟩ := ownsRow_shape hown3
            have hm4 : Mv (own (.slice A2 g.w.length cap2)) (own (.slice A3 (g.w.length + 1) cap3)) w2 w3 := ⟨hm3.os, hm3.tape, hm3.output, hm3.size, hm3.block, hm3.new⟩
            have hrow : Ids B w3 (.slice A3 (g.w.length + 1) cap3) (g.w ++ [x]) := by unfold Ids; rw [ints_append, List.length_append]; exact hown3
            obtain ⟨s1, s2, s3, s4, _⟩ := store_w hG2 hm4 hrow
            have hHS1 := hid_mk s1
            have hHS2 := hid_mk s2
            clear s1 s2 hown3 hm3 hm4 hrow e0 e1 e2 e3
            go_wp2_with fail
            go_ret
            exact ⟨ret_int HA.out.symm, _, by rw [HN.out]; exact ⟨_, _, rfl, hHS1.out⟩, (Mv.of_below hb2).trans hHS2.out⟩
        · have HA : Hid (askA g x = 0) := (hA0.trans (if_neg ht)).trans (if_neg hr)
          have HN : Hid (askG g x = g) := (hN0.trans (if_neg ht)).trans (if_neg hr)
          clear hA0 hN0
          go_enter Try.func7, Try.ntmps7
          go_wp2_with fail
          refine (contains_any g.i B _ x _ h1).mono ?_
          rintro e w1 ⟨rfl, b1⟩
          rw [hd]
          have hG1 := hG.below b1
          obtain ⟨d0, d1, d2, d3⟩ := hG1.cells
          go_wp2_with fail
          refine (contains_any g.w B _ x _ hG1.2.2.2.1).mono ?_
          rintro e w2 ⟨rfl, b2⟩
          rw [hd2]
          have hG2 := hG1.below b2
          obtain ⟨e0, e1, e2, e3⟩ := hG2.cells
          clear d0 d1 d2 d3 hG1 c2 hG h1
          go_wp2_with fail
          go_quiet (fail)
          go_wp2_with fail
          go_quiet (fail)
          go_wp2_with fail
          go_ret
          exact ⟨ret_int HA.out.symm, _, by rw [HN.out]; exact HB.out.below (pw_below (pw_below (bthen b1 b2))), .of_below (pw_below (pw_below (bthen b1 b2)))⟩

end Go.Proofs.Ytehcliogjnpehab
