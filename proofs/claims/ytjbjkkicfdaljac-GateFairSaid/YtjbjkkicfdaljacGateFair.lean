/- The walk over GateFair. -/
import Derived.Test.YtjbjkkicfdaljacGateTwice
namespace Go.Proofs.Ytjbjkkicfdaljac
open Go.RowKit
set_option linter.unusedVariables false

/-- Each once, in the order in which they came. -/
def uniq (l : List Int) : List Int := l.foldl (fun u x => if x ∈ u then u else u ++ [x]) []
theorem uniq_snoc (l : List Int) (x : Int) : uniq (l ++ [x]) = if x ∈ uniq l then uniq l else uniq l ++ [x] := by unfold uniq; rw [List.foldl_append]; rfl
theorem uniq_length (l : List Int) : (uniq l).length ≤ l.length := by
  have key : ∀ n, ∀ l : List Int, l.length = n → (uniq l).length ≤ n := by
    intro n
    induction n with
    | zero =>
      intro l h
      have : l = [] := List.eq_nil_of_length_eq_zero h
      subst this
      exact Nat.le_refl _
    | succ n ih =>
      intro l h
      obtain ⟨bs, a, rfl⟩ : ∃ bs a, l = bs ++ [a] := by
        have hne : l ≠ [] := by intro e; subst e; simp at h
        exact ⟨l.dropLast, l.getLast hne, (List.dropLast_concat_getLast hne).symm⟩
      have h2 := ih bs (by simpa using h)
      rw [uniq_snoc]
      split
      · omega
      · simp; omega
  exact key _ l rfl
theorem ask_all (g : G) (x : Int) (h : g.ok) (hr : g.w.length < g.r) : (askG g x).i ++ (askG g x).w = if x ∈ g.i ++ g.w then g.i ++ g.w else (g.i ++ g.w) ++ [x] := by
  by_cases h1 : x ∈ g.i
  · rw [if_pos (List.mem_append.2 (.inl h1)), show askG g x = g from if_pos h1]
  · by_cases h2 : x ∈ g.w
    · rw [if_pos (List.mem_append.2 (.inr h2)), show askG g x = g from (if_neg h1).trans (if_pos h2)]
    · rw [if_neg (fun h3 => (List.mem_append.1 h3).elim h1 h2)]
      by_cases h3 : g.i.length < g.t
      · have hw : g.w = [] := by
          rcases hw : g.w with _ | ⟨y, ys⟩
          · rfl
          · have := h.full (by rw [hw]; simp); omega
        rw [show askG g x = ⟨g.t, g.r, g.i ++ [x], g.w⟩ from (if_neg h1).trans ((if_neg h2).trans (if_pos h3))]
        show (g.i ++ [x]) ++ g.w = _
        rw [hw]; simp
      · rw [show askG g x = ⟨g.t, g.r, g.i, g.w ++ [x]⟩ from (if_neg h1).trans ((if_neg h2).trans ((if_neg h3).trans (if_pos hr)))]
        show g.i ++ (g.w ++ [x]) = _
        rw [List.append_assoc]
theorem ask_r (g : G) (x : Int) : (askG g x).r = g.r := by
  unfold askG
  split
  · rfl
  · split
    · rfl
    · split
      · rfl
      · split <;> rfl
theorem leave_fair (g : G) (x : Int) (h : g.ok) (hx : x ∈ g.i) : leaveL g x ++ (leaveG g x).w = g.w ∧ ((leaveG g x).i ++ (leaveG g x).w).length < (g.i ++ g.w).length := by
  have hw : x ∉ g.w := fun h2 => (List.nodup_append.1 h.once).2.2 x hx x h2 rfl
  have e := but_none g.w x hw
  constructor
  · show (but g.w x).take (many g x) ++ (but g.w x).drop (many g x) = g.w
    rw [List.take_append_drop, e]
  · rw [leave_all]
    have hnd := h.once
    have e2 : but (g.i ++ g.w) x = (g.i ++ g.w).erase x := by rw [hnd.erase_eq_filter]; rfl
    have hm : x ∈ g.i ++ g.w := List.mem_append.2 (.inl hx)
    have hpos := List.length_pos_of_mem hm
    rw [e2, List.length_erase_of_mem hm]
    omega
theorem apart_grow {F : Nat → Prop} {v v' : Value} {w w' : World} (h : Apart v F) (m : Mv (own v) (own v') w w') (hF : ∀ k, F k → k < w.heap.size) : Apart v' F := fun k hk hf => by
  rcases m.new k hk with h2 | h2
  · exact h k h2 hf
  · have := hF k hf; omega
theorem less60 {a b q : Nat} (h : a < b) (k : b ≤ 60 - q) : a ≤ 60 - (q + 1) := by omega
theorem empty_both (g : G) (h : g.ok) (he : g.i.length = 0) : g.w = [] := by
  rcases hw : g.w with _ | ⟨y, ys⟩
  · rfl
  · have h1 := h.full (by rw [hw]; simp)
    have h2 := h.t1
    omega

theorem fair_walk (tk : Int) (A : Option Addr) (n cap : Nat) (xs : List Int) (w : World) (hw1 : (Lit.int .u8 tk).wf = true) (hin : InInts .i64 w A n cap xs) :
    Calls Try.prog 5 #[.int .u8 tk, .slice A n cap] w fun e w' => e = .returned (.bool true) ∧ Below w.heap.size w w' := by
  obtain ⟨t0, t1⟩ := wf_u8 hw1
  obtain ⟨hxl, hnc, hcap, hA⟩ := hin
  obtain ⟨m, hmn, hm60, _, hmin⟩ := min_fact Try.prog n 60 (by omega)
  have hmc : m ≤ cap := by omega
  go_enter Try.func5, Try.ntmps5
  go_wp2_with fail
  refine (awake_any _).mono ?_
  rintro e w1 ⟨rfl, b1⟩
  go_wp2_with fail
  refine (new_any _ 64 _).mono ?_
  rintro e w2 ⟨rfl, ⟨F2, h2⟩, b2⟩
  have hok2 := newG_ok (tk % 16 + 1) 64
  go_wp2_with fail
  clear hmin
  go_loopw [6, 26] (fun v i wr => ∃ (k : Nat) (g : G) (F : Nat → Prop), i = .int .i64 k ∧ k ≤ m ∧ Gate w1.heap.size wr w1.heap.size g F ∧ g.ok ∧ g.r = 64 ∧ g.i ++ g.w = uniq (xs.take k) ∧ Ids w1.heap.size wr v (uniq (xs.take k)) ∧ Apart v F ∧ Below w1.heap.size w1 wr) (fun _ i _ => m - (intOf i).toNat)
  case atStart => exact ⟨0, _, _, rfl, Nat.zero_le _, h2, hok2, rfl, rfl, Ids.nil _ _, fun k hk => by simp [Value.ownBlock] at hk, b2⟩
  case round =>
    clear h2 b2 hok2
    obtain ⟨j, g, F, rfl, hj, ht, hok, hr, hall, hv, hap, hb⟩ := hrel
    have hul := uniq_length (xs.take j)
    rw [List.length_take] at hul
    by_cases hlt : j < m
    · obtain ⟨b, off, rfl, hbw, hcs⟩ := hA (by omega)
      have B0 := bthen b1 hb
      have d0 := (B0.cell (p := ⟨b, off + j, none⟩) hbw).trans (hcs j (by omega))
      have HT : Hid (uniq (xs.take (j + 1)) = if xs.getD j 0 ∈ uniq (xs.take j) then uniq (xs.take j) else uniq (xs.take j) ++ [xs.getD j 0]) := by
        have e := gi_take xs j (by omega)
        rw [e, uniq_snoc]; exact rfl
      have hwl : g.w.length < g.r := by
        have := congrArg List.length hall
        rw [List.length_append] at this
        omega
      have HA := hid_mk (ask_all g (xs.getD j 0) hok hwl)
      have hokn := askG_ok g (xs.getD j 0) hok
      have HR := hid_mk ((ask_r g (xs.getD j 0)).trans hr)
      rw [hall] at HA
      rw [← HT.out] at HA
      generalize xs.getD j 0 = x at *
      obtain ⟨U, hU⟩ : ∃ U, U = uniq (xs.take j) := ⟨_, rfl⟩
      rw [← hU] at hall hv hul HT
      have HAL := hid_mk hall
      have hUl : U.length ≤ 60 := by omega
      clear hcs hA hU hall hwl
      obtain ⟨VA, vcap, rfl, _, _, _⟩ := ownsRow_shape hv
      go_wp2_with fail
      refine (has_any U _ _ x _ hv).mono ?_
      rintro e w3 ⟨rfl, b3⟩
      have h3 := ht.below b3
      have B3 := bthen hb b3
      have hv3 : Ids w1.heap.size w3 (.slice VA U.length vcap) U := ownsRow_below hv b3
      have hF3 := fun k hk => (h3.foot k hk).2
      have hsz3 := B3.size
      clear ht hb hv b3
      by_cases hx : x ∈ U
      · rw [decide_eq_true hx]
        rw [if_pos hx] at HT
        go_wp2_with fail
        refine (ask_any _ _ _ _ x _ h3 hok).mono ?_
        rintro e w4 ⟨rfl, F4, h4, m4⟩
        have B4 := B3.trans (h3.moved m4)
        have hv4 : Ids w1.heap.size w4 (.slice VA U.length vcap) U := m4.row hv3 hap
        have hap4 := hap.moved m4 (fun k hk => (own_lt hv3 k hk).2)
        go_wp2_with fail
        refine ⟨⟨j + 1, _, _, by go_num, by omega, h4, hokn, HR.out, HA.out, ?_, hap4, B4⟩, by simp [intOf]; omega⟩
        rw [HT.out]
        exact hv4
      · rw [decide_eq_false hx]
        rw [if_neg hx] at HT
        go_wp2_with (at_builtin; refine app_one _ rfl (.tmp 34) (.tmp 36) 26 2 (.int .i64 0) 1 8 rfl Try.underlying26 info2 rfl (by decide) w1.heap.size _ U.length (ints U) _ rfl _ rfl (by simp) rfl ?_ hv3 (by omega) (by omega) (by omega) ?_)
        · exact rfl
        · intro v5 w5 hown5 hm5
          obtain ⟨A5, cap5, rfl, _, _, _⟩ := ownsRow_shape hown5
          have hv5 : Ids w1.heap.size w5 (.slice A5 (U.length + 1) cap5) (U ++ [x]) := by unfold Ids; rw [ints_append, List.length_append]; exact hown5
          have h5 := h3.other hm5 (fun k hk hf => hap k hf hk)
          have B5 := B3.trans (hm5.below (fun k hk => (own_lt hv3 k hk).1) hsz3)
          have hap5 := apart_grow hap hm5 hF3
          clear h3 hown5 hm5 hv3 B3 hap
          go_wp2_with fail
          refine (ask_any _ _ _ _ x _ h5 hok).mono ?_
          rintro e w6 ⟨rfl, F6, h6, m6⟩
          have B6 := B5.trans (h5.moved m6)
          have hv6 : Ids w1.heap.size w6 (.slice A5 (U.length + 1) cap5) (U ++ [x]) := m6.row hv5 hap5
          have hap6 := hap5.moved m6 (fun k hk => (own_lt hv5 k hk).2)
          go_wp2_with fail
          refine ⟨⟨j + 1, _, _, by go_num, by omega, h6, hokn, HR.out, HA.out, ?_, hap6, B6⟩, by simp [intOf]; omega⟩
          rw [HT.out]
          exact hv6
    · obtain rfl : j = m := by omega
      obtain ⟨U, hU⟩ : ∃ U, U = uniq (xs.take j) := ⟨_, rfl⟩
      rw [← hU] at hall hv hul
      have hUl : U.length ≤ 60 := by omega
      clear hU hul hA
      obtain ⟨VA, vcap, rfl, _, _, _⟩ := ownsRow_shape hv
      go_wp2_with fail
      refine (inside_any _ _ _ _ _ ht hok).mono ?_
      rintro e w3 ⟨v3, rfl, hv3, b3⟩
      have h3 := ht.below b3
      have B3 := bthen hb b3
      have hu3 : Ids w1.heap.size w3 (.slice VA U.length vcap) U := ownsRow_below hv b3
      have hF3 := fun k hk => (ht.foot k hk).2
      have ha3 := apart_new hv3 hF3
      have hau : Apart (.slice VA U.length vcap) (own v3) := fun k hk hf => by
        have h1 := (own_lt hv k hk).2
        have h2 := (own_lt hv3 k hf).1
        omega
      have hv3' : Ids w1.heap.size w3 v3 g.i := ownsRow_base hv3 hb.size
      clear ht hv b3 hb hv3
      go_wp2_with fail
      go_loopw [9, 44] (fun got i wr => ∃ (q : Nat) (g : G) (F : Nat → Prop) (gl : List Int), i = .int .i64 q ∧ q ≤ 70 ∧ Gate w1.heap.size wr w1.heap.size g F ∧ g.ok ∧ gl ++ g.w = U ∧ (g.i ++ g.w).length ≤ 60 - q ∧ Ids w1.heap.size wr got gl ∧ Apart got F ∧
        Ids w1.heap.size wr (.slice VA U.length vcap) U ∧ Apart (.slice VA U.length vcap) F ∧ Apart (.slice VA U.length vcap) (own got) ∧ Below w1.heap.size w1 wr) (fun _ i _ => 70 - (intOf i).toNat)
      case atStart => exact ⟨0, g, F, g.i, rfl, Nat.zero_le _, h3, hok, hall, by rw [hall]; omega, hv3', ha3, hu3, hap, hau, B3⟩
      case round =>
        clear h3 B3 hu3 hv3' ha3 hap hau hok hr hall hF3
        obtain ⟨q, g, F, gl, rfl, hq, ht, hok, hall, hlen, hgot, hga, hu, hua, hug, hb⟩ := hrel
        have hgl : gl.length ≤ 60 := by
          have := congrArg List.length hall
          rw [List.length_append] at this
          omega
        obtain ⟨GA, gcap, rfl, _, _, _⟩ := ownsRow_shape hgot
        by_cases hlt : q < 70
        · go_wp2_with fail
          refine (inside_any _ _ _ _ _ ht hok).mono ?_
          rintro e w4 ⟨v4, rfl, hv4, b4⟩
          have h4 := ht.below b4
          have B4 := bthen hb b4
          have hgot4 : Ids w1.heap.size w4 (.slice GA gl.length gcap) gl := ownsRow_below hgot b4
          have hu4 : Ids w1.heap.size w4 (.slice VA U.length vcap) U := ownsRow_below hu b4
          have hF4 := fun k hk => (h4.foot k hk).2
          clear ht hb hgot hu b4
          obtain ⟨IA, icap, rfl, _, _, hIA, hics⟩ := hv4.cells
          by_cases he : g.i.length = 0
          · have hw0 := empty_both g hok he
            go_wp2_with fail
            refine ⟨⟨q + 1, g, F, gl, by go_num, by omega, h4, hok, hall, ?_, hgot4, hga, hu4, hua, hug, B4⟩, by simp [intOf]; omega⟩
            rw [List.length_append, he, hw0]
            simp
          · obtain ⟨ig, rfl, hig, _⟩ := hIA (by omega)
            obtain ⟨h2, hh, hq2, hq3⟩ : ∃ h2 : Nat, h2 < g.i.length ∧ ((g.i.length : Int) / 2) = (h2 : Int) ∧ (g.i.length : Int).tdiv 2 = (h2 : Int) :=
              ⟨g.i.length / 2, by omega, by omega, by rw [Int.tdiv_eq_ediv_of_nonneg (by omega)]; omega⟩
            have hx := gi_mem g.i h2 hh
            have hcell := hics h2 hh ig rfl
            obtain ⟨f1, f2⟩ := leave_fair g _ hok hx
            have hokn := leaveG_ok g (gi g.i h2) hok
            generalize gi g.i h2 = x at *
            have F1 := hid_mk f1
            have F2 := hid_mk f2
            clear f1 f2
            clear hics hIA hx
            have hgw : gl.length + g.w.length ≤ 60 := by
              have := congrArg List.length hall
              rw [List.length_append] at this
              omega
            have hL60 : (leaveL g x).length ≤ 60 := by
              have := congrArg List.length F1.out
              rw [List.length_append] at this
              omega
            go_wp2_with fail
            refine (leave_any _ _ _ _ x _ h4 hok).mono ?_
            rintro e w5 ⟨v5, rfl, hv5, F5, h5, m5, a5⟩
            have HAL := hid_mk hall
            have hll : gl.length + (leaveL g x).length ≤ 120 := by omega
            clear hall
            obtain ⟨L, hL⟩ : ∃ L, L = leaveL g x := ⟨_, rfl⟩
            rw [← hL] at hv5 F1 hL60 hll
            clear hL
            have hgot5 : Ids w1.heap.size w5 (.slice GA gl.length gcap) gl := m5.row hgot4 hga
            have hga5 := hga.moved m5 (fun k hk => (own_lt hgot4 k hk).2)
            have hu5 : Ids w1.heap.size w5 (.slice VA U.length vcap) U := m5.row hu4 hua
            have hua5 := hua.moved m5 (fun k hk => (own_lt hu4 k hk).2)
            have B5 := B4.trans (h4.moved m5)
            have hF5 := fun k hk => (h5.foot k hk).2
            have hsz5 := B5.size
            obtain ⟨LA, lcap, rfl, _, _, _⟩ := ownsRow_shape hv5
            clear h4 hgot4 hga hu4 hua B4 m5 a5 hv4 hcell
            go_wp2_with (at_builtin; refine app_row _ rfl (.tmp 51) (.tmp 59) 26 2 (.int .i64 0) 1 8 rfl Try.underlying26 info2 rfl (by decide) w1.heap.size _ gl.length (ints gl) rfl hgot5 _ _ L.length (ints L) rfl hv5 (ints_cells _) hsz5 (by omega) (by omega) ?_)
            intro v6 w6 hown6 hm6
            obtain ⟨A6, cap6, rfl, _, _, _⟩ := ownsRow_shape hown6
            have hgot6 : Ids w1.heap.size w6 (.slice A6 (gl.length + L.length) cap6) (gl ++ L) := by unfold Ids; rw [ints_append, List.length_append]; exact hown6
            have h6 := h5.other hm6 (fun k hk hf => hga5 k hf hk)
            have hga6 := apart_grow hga5 hm6 hF5
            have hu6 : Ids w1.heap.size w6 (.slice VA U.length vcap) U := hm6.row hu5 hug
            have hug6 := hug.moved hm6 (fun k hk => (own_lt hu5 k hk).2)
            have B6 := B5.trans (hm6.below (fun k hk => (own_lt hgot5 k hk).1) hsz5)
            clear h5 hown6 hm6 hgot5 hga5 hu5 B5 hv5 hug
            go_wp2_with fail
            exact ⟨⟨q + 1, leaveG g x, F5, gl ++ L, by go_num, by omega, h6, hokn, by rw [List.append_assoc, F1.out]; exact HAL.out, less60 F2.out hlen, hgot6, hga6, hu6, hua5, hug6, B6⟩, by simp [intOf]; omega⟩
        · obtain rfl : q = 70 := by omega
          have hz : (g.i ++ g.w).length = 0 := by omega
          rw [List.length_append] at hz
          have hi0 : g.i.length = 0 := by omega
          have hw0 : g.w.length = 0 := by omega
          have hw1 : g.w = [] := List.eq_nil_of_length_eq_zero hw0
          rw [hw1, List.append_nil] at hall
          subst hall
          go_wp2_with fail
          refine (same_true _ _ _ _ _ _ hgot hu).mono ?_
          rintro e w5 ⟨rfl, b5⟩
          have h5 := ht.below b5
          have B5 := bthen hb b5
          go_wp2_with fail
          refine (inside_any _ _ _ _ _ h5 hok).mono ?_
          rintro e w6 ⟨v6, rfl, hv6, b6⟩
          have h6 := h5.below b6
          have B6 := bthen B5 b6
          obtain ⟨A6, cap6, rfl, _, _, _⟩ := ownsRow_shape hv6
          rw [hi0]
          go_wp2_with fail
          refine (waiting_any _ _ _ _ _ h6 hok).mono ?_
          rintro e w7 ⟨v7, rfl, hv7, b7⟩
          have B7 := bthen B6 b7
          obtain ⟨A7, cap7, rfl, _, _, _⟩ := ownsRow_shape hv7
          rw [hw0]
          go_wp2_with fail
          go_ret
          exact ⟨rfl, bthen b1 B7⟩

end Go.Proofs.Ytjbjkkicfdaljac
