/- The walk over the law GateActs. -/
import Derived.Test.YtehcliogjnpehabGateE
namespace Go.Proofs.Ytehcliogjnpehab
open Go.RowKit
set_option linter.unusedVariables false

theorem apart_grow {F : Nat → Prop} {v v' : Value} {w w' : World} (h : Apart v F) (m : Mv (own v) (own v') w w') (hF : ∀ k, F k → k < w.heap.size) : Apart v' F := fun k hk hf => by
  rcases m.new k hk with h2 | h2
  · exact h k h2 hf
  · have := hF k hf; omega
theorem ask_tr (g : G) (x : Int) : (askG g x).t = g.t ∧ (askG g x).r = g.r := by
  unfold askG
  split
  · exact ⟨rfl, rfl⟩
  · split
    · exact ⟨rfl, rfl⟩
    · split
      · exact ⟨rfl, rfl⟩
      · split <;> exact ⟨rfl, rfl⟩

def lenV : Value → Nat
  | .slice _ n _ => n
  | _ => 0
theorem Off.base {B C : Nat} {w : World} {v : Value} {l : List Int} (h : Off C w v l) (hB : B ≤ C) : Off B w v l := by
  rcases h with h | ⟨g, off, cap, cur, rfl, hb, r⟩
  · exact .inl h
  · exact .inr ⟨g, off, cap, cur, rfl, Nat.le_trans hB hb, r⟩

theorem step_app_off {ops : Array Oper} {o : Oper} {a : Act} {K : Act → World → Prop} {Q : Exit → Act → World → Prop} {E : Prop} {W : World} (hgd : o.guard = none) (s x : Operand) (t : TypeId)
    (ho : o.op = .call { callee := .builtin .append, args := #[s, x], argTypes := #[t, t] }) (ht : Try.prog.underlying t = some (.slice 2)) (B : Nat) (v : Value) (l : List Int) (y : Int) (hs : a.eval s = v)
    (N : Nat) (hx : a.eval x = .slice (some ⟨N, 0, none⟩) 1 1) (hN : N = W.heap.size) (hown : Off B W v l) (hB : B ≤ W.heap.size) (hl : l.length < 1000000000000)
    (hK : ∀ v' w', Off B w' v' (l ++ [y]) → Mv (own v) (own v') W w' → K (a.put o.dst v') w') :
    if Region.wanted o (yielded ops a.tmps) = true then Oper.wp Try.prog o a (W.alloc (.cells #[.int .i64 y] 2)) K Q else E := by
  subst hN
  have hw : Region.wanted o (yielded ops a.tmps) = true := by simp [Region.wanted, hgd]
  rw [if_pos hw]
  obtain ⟨v', w', hr, h2, h3⟩ := run_app_off B v l y W t o.type ht hown hB hl
  unfold Oper.wp
  simp [execOp, ho, resolve, invoke, builtin, hs, hx, hr, Result.andThen]
  exact hK v' w' h2 h3

theorem step_app_off_drew {ops : Array Oper} {o : Oper} {a : Act} {K : Act → World → Prop} {Q : Exit → Act → World → Prop} {E : Prop} (W : World) (hgd : o.guard = none) (s x : Operand) (t : TypeId)
    (ho : o.op = .call { callee := .builtin .append, args := #[s, x], argTypes := #[t, t] }) (ht : Try.prog.underlying t = some (.slice 2)) (B : Nat) (v : Value) (l : List Int) (y : Int) (hs : a.eval s = v)
    (hx : a.eval x = .slice (some ⟨W.heap.size, 0, none⟩) 1 1) (hown : Off B W v l) (hB : B ≤ W.heap.size) (hl : l.length < 1000000000000)
    (hK : ∀ v' w', Off B w' v' (l ++ [y]) → Mv (own v) (own v') W w' → K (a.put o.dst v') w') :
    if Region.wanted o (yielded ops a.tmps) = true then Oper.wp Try.prog o a (W.alloc (.cells #[.int .i64 y] 2)).drew K Q else E :=
  step_app_off (W := W.drew) hgd s x t ho ht B v l y hs W.heap.size hx rfl hown hB hl fun v' w' h1 h2 => hK v' w' h1 ⟨h2.os, h2.tape, h2.output, h2.size, h2.block, h2.new⟩

theorem Gate.belowN {B N : Nat} {w w' : World} {p : Nat} {g : G} {F : Nat → Prop} (h : Gate B w p g F) (hb : Below N w w') (hF : ∀ k, F k → k < N) : Gate B w' p g F :=
  h.other (H := fun k => N ≤ k) (H' := fun k => N ≤ k) ⟨hb.os, hb.tape, hb.output, hb.size, fun k _ hc => hb.block k (by omega), fun k h => .inl h⟩ fun k hk h => by have := hF k hk; omega

set_option maxHeartbeats 2500000 in
set_option maxRecDepth 100000 in
theorem deeds_walk (t r : Int) (A : Option Addr) (n cap : Nat) (xs : List Deed) (w : World) (_ : (Lit.int .i64 t).wf = true) (_ : (Lit.int .i64 r).wf = true) (hin : InActs w A n cap xs) :
    Calls Try.prog 3 #[.int .i64 t, .int .i64 r, .slice A n cap] w fun e w' => e = .returned (.bool true) ∧ Below w.heap.size w w' := by
  obtain ⟨hxl, hnc, hcap, hoks, hA⟩ := hin
  obtain ⟨m, hmn, hm100, _, hmin⟩ := min_fact Try.prog n 100 (by omega)
  have hmc : m ≤ cap := by omega
  have hct : Hid (clampT t = (newG t r).t) := rfl
  have hcr : Hid (clampR r = (newG t r).r) := rfl
  obtain ⟨c1, hc1, hc2⟩ := clampT_run Try.prog t
  obtain ⟨c2, hc3, hc4⟩ := clampR_run Try.prog r
  go_enter Try.func3, Try.ntmps3
  go_wp2_with fail
  refine (awake_any _).mono ?_
  rintro e w1 ⟨rfl, b1⟩
  go_wp2_with fail
  refine (new_any t r _).mono ?_
  rintro e w2 ⟨rfl, ⟨F2, h2⟩, b2⟩
  have hok2 := newG_ok t r
  go_wp2_with fail
  clear hmin hc1 hc2 hc3 hc4
  go_loopw [10, 11, 36] (fun iv wv i wr => ∃ (k : Nat) (g : G) (F : Nat → Prop), i = .int .i64 k ∧ k ≤ m ∧ Gate w1.heap.size wr w1.heap.size g F ∧ g.ok ∧ Hid (clampT t = g.t) ∧ Hid (clampR r = g.r) ∧
    Off w1.heap.size wr iv g.i ∧ Off w1.heap.size wr wv g.w ∧ Apart iv F ∧ Apart wv F ∧ Apart iv (own wv) ∧ Below w1.heap.size w1 wr) (fun _ _ i _ => m - (intOf i).toNat)
  case atStart =>
    exact ⟨0, _, _, rfl, Nat.zero_le _, h2, hok2, hct, hcr, .inl ⟨rfl, rfl⟩, .inl ⟨rfl, rfl⟩, fun k hk => by simp [Value.ownBlock] at hk, fun k hk => by simp [Value.ownBlock] at hk, fun k hk => by simp [Value.ownBlock] at hk, b2⟩
  case round =>
    clear h2 b2 hok2 hct hcr
    obtain ⟨j, g, F, rfl, hj, ht, hok, ht1, hr1, hi, hw, hia, hwa, hiw, hb⟩ := hrel
    by_cases hlt : j < m
    · obtain ⟨b, off, rfl, hbw, hcs⟩ := hA (by omega)
      have B0 := bthen b1 hb
      obtain ⟨d0, d1⟩ := acts_later B0 hbw (hcs j (by omega))
      obtain ⟨k0, k1, i0, i1⟩ := hoks j (by omega)
      clear hcs hA hoks
      have hokA := askG_ok g ((dth xs j).id % 30) hok
      have hokL := leaveG_ok g ((dth xs j).id % 30) hok
      obtain ⟨IA, icap, rfl, _, _, _⟩ := hi.reads
      obtain ⟨WA, wcap, rfl, _, _, _⟩ := hw.reads
      have hbs := hb.size
      have hi' := hi.below (balloc (.cells #[.int .u8 (dth xs j).kind, .int .u8 (dth xs j).id] 28))
      have hw' := hw.below (balloc (.cells #[.int .u8 (dth xs j).kind, .int .u8 (dth xs j).id] 28))
      have ht' := ht.below (balloc (.cells #[.int .u8 (dth xs j).kind, .int .u8 (dth xs j).id] 28))
      have hb' := hb.trans (balloc' (o := .cells #[.int .u8 (dth xs j).kind, .int .u8 (dth xs j).id] 28) hb.size)
      obtain ⟨x, hx⟩ : ∃ x, x = (dth xs j).id % 30 := ⟨_, rfl⟩
      have hk : ((dth xs j).kind < 160 ∧ x ∈ g.i) ∨ ((dth xs j).kind < 160 ∧ x ∉ g.i ∧ x ∈ g.w) ∨ ((dth xs j).kind < 160 ∧ x ∉ g.i ∧ x ∉ g.w ∧ g.i.length < g.t) ∨ ((dth xs j).kind < 160 ∧ x ∉ g.i ∧ x ∉ g.w ∧ ¬ g.i.length < g.t ∧ g.w.length < g.r) ∨
          ((dth xs j).kind < 160 ∧ x ∉ g.i ∧ x ∉ g.w ∧ ¬ g.i.length < g.t ∧ ¬ g.w.length < g.r) ∨ ¬ (dth xs j).kind < 160 := by
        by_cases c1 : (dth xs j).kind < 160
        · by_cases c2 : x ∈ g.i
          · exact .inl ⟨c1, c2⟩
          · by_cases c3 : x ∈ g.w
            · exact .inr (.inl ⟨c1, c2, c3⟩)
            · by_cases c4 : g.i.length < g.t
              · exact .inr (.inr (.inl ⟨c1, c2, c3, c4⟩))
              · by_cases c5 : g.w.length < g.r
                · exact .inr (.inr (.inr (.inl ⟨c1, c2, c3, c4, c5⟩)))
                · exact .inr (.inr (.inr (.inr (.inl ⟨c1, c2, c3, c4, c5⟩))))
        · exact .inr (.inr (.inr (.inr (.inr c1))))
      rcases hk with ⟨hk, hxi⟩ | ⟨hk, hxi, hxw⟩ | ⟨hk, hxi, hxw, hlt1⟩ | ⟨hk, hxi, hxw, hlt1, hlt2⟩ | ⟨hk, hxi, hxw, hlt1, hlt2⟩ | hk
      -- inside already
      have HA : Hid (askA g x = 1) := if_pos hxi
      have HN : Hid (askG g x = g) := if_pos hxi
      go_wp2_with fail
      rw [← hx]
      rw [← hx] at hokA hokL
      clear hx
      refine (has_off _ _ _ x _ hi').mono ?_
      rintro e w3 ⟨rfl, b3⟩
      have hi3 := hi'.below b3
      have hw3 := hw'.below b3
      have ht3 := ht'.below b3
      have hb3 := bthen hb' b3
      clear hi hw ht hb hi' hw' ht' hb' b3 d0 d1 B0 hbs
      rw [decide_eq_true hxi]
      go_wp2_with fail
      refine (ask_any _ _ _ _ x _ ht3 hok).mono ?_
      rintro e w4 ⟨rfl, F4, h4, m4⟩
      rw [HA.out]
      have hb4 := hb3.trans (ht3.moved m4)
      have hia4 := hia.moved m4 (fun k hk => (hi3.lt k hk).2)
      have hwa4 := hwa.moved m4 (fun k hk => (hw3.lt k hk).2)
      have hiw4 := hiw
      have hi4 := m4.off hi3 hia
      have hw4 := m4.off hw3 hwa
      have ht4 : Hid (clampT t = (askG g x).t) := hid_mk (ht1.out.trans (ask_tr g x).1.symm)
      have hr4 : Hid (clampR r = (askG g x).r) := hid_mk (hr1.out.trans (ask_tr g x).2.symm)
      rw [HN.out] at h4 hokA ht4 hr4
      clear hi3 hw3 ht3 hb3 m4 HA HN
      go_wp2_with fail
      rotate_left
      -- waiting already
      have HA : Hid (askA g x = 2) := (if_neg hxi).trans (if_pos hxw)
      have HN : Hid (askG g x = g) := (if_neg hxi).trans (if_pos hxw)
      go_wp2_with fail
      rw [← hx]
      rw [← hx] at hokA hokL
      clear hx
      refine (has_off _ _ _ x _ hi').mono ?_
      rintro e w3 ⟨rfl, b3⟩
      have hi3 := hi'.below b3
      have hw3 := hw'.below b3
      have ht3 := ht'.below b3
      have hb3 := bthen hb' b3
      clear hi hw ht hb hi' hw' ht' hb' b3 d0 d1 B0 hbs
      rw [decide_eq_false hxi]
      go_wp2_with fail
      refine (has_off _ _ _ x _ hw3).mono ?_
      rintro e w5 ⟨rfl, b5⟩
      have hi5 := hi3.below b5
      have hw5 := hw3.below b5
      have ht5 := ht3.below b5
      have hb5 := bthen hb3 b5
      clear hi3 hw3 ht3 hb3 b5
      rw [decide_eq_true hxw]
      go_wp2_with fail
      refine (ask_any _ _ _ _ x _ ht5 hok).mono ?_
      rintro e w4 ⟨rfl, F4, h4, m4⟩
      rw [HA.out]
      have hb4 := hb5.trans (ht5.moved m4)
      have hia4 := hia.moved m4 (fun k hk => (hi5.lt k hk).2)
      have hwa4 := hwa.moved m4 (fun k hk => (hw5.lt k hk).2)
      have hiw4 := hiw
      have hi4 := m4.off hi5 hia
      have hw4 := m4.off hw5 hwa
      have ht4 : Hid (clampT t = (askG g x).t) := hid_mk (ht1.out.trans (ask_tr g x).1.symm)
      have hr4 : Hid (clampR r = (askG g x).r) := hid_mk (hr1.out.trans (ask_tr g x).2.symm)
      rw [HN.out] at h4 hokA ht4 hr4
      clear hi5 hw5 ht5 hb5 m4 HA HN
      go_wp2_with fail
      rotate_left
      -- let in
      have HA : Hid (askA g x = 1) := (if_neg hxi).trans ((if_neg hxw).trans (if_pos hlt1))
      have HN : Hid (askG g x = ⟨g.t, g.r, g.i ++ [x], g.w⟩) := (if_neg hxi).trans ((if_neg hxw).trans (if_pos hlt1))
      have q1 : g.i.length < clampT t := by rw [ht1.out]; exact hlt1
      have q16 : g.i.length < 1000000000000 := by have := hok.it; have := hok.t16; omega
      go_wp2_with fail
      rw [← hx]
      rw [← hx] at hokA hokL
      clear hx
      refine (has_off _ _ _ x _ hi').mono ?_
      rintro e w3 ⟨rfl, b3⟩
      have hi3 := hi'.below b3
      have hw3 := hw'.below b3
      have ht3 := ht'.below b3
      have hb3 := bthen hb' b3
      clear hi hw ht hb hi' hw' ht' hb' b3 d0 d1 B0 hbs
      rw [decide_eq_false hxi]
      go_wp2_with fail
      refine (has_off _ _ _ x _ hw3).mono ?_
      rintro e w5 ⟨rfl, b5⟩
      have hi5 := hi3.below b5
      have hw5 := hw3.below b5
      have ht5 := ht3.below b5
      have hb5 := bthen hb3 b5
      clear hi3 hw3 ht3 hb3 b5
      rw [decide_eq_false hxw]
      have hs5 := hb5.size
      go_wp2_with (at_builtin; refine app_off _ rfl (.tmp 60) (.tmp 62) 26 rfl Try.underlying26 w1.heap.size _ g.i x rfl _ rfl (by simp) hi5 hs5 q16 ?_)
      intro v6 w6 hown6 hm6
      obtain ⟨A6, cap6, e6, _, _, _⟩ := hown6.reads
      rw [List.length_append, List.length_singleton] at e6
      subst e6
      have ht6 := ht5.other hm6 (fun k hk hf => hia k hf hk)
      have hw6 := hm6.off hw5 (fun k hk hf => hiw k hf hk)
      have hi6 := hown6
      have hb6 := hb5.trans (hm6.below (fun k hk => (hi5.lt k hk).1) hs5)
      have hF5 := fun k hk => (ht5.foot k hk).2
      have hia6 := apart_grow hia hm6 hF5
      have hiw6 : Apart _ _ := apart_grow hiw hm6 (fun k hk => (hw5.lt k hk).2)
      clear ht5 hw5 hi5 hb5 hown6 hm6 hs5 q1 q16 hF5
      go_wp2_with fail
      refine (ask_any _ _ _ _ x _ ht6 hok).mono ?_
      rintro e w4 ⟨rfl, F4, h4, m4⟩
      rw [HA.out]
      have hb4 := hb6.trans (ht6.moved m4)
      have hia4 := hia6.moved m4 (fun k hk => (hi6.lt k hk).2)
      have hwa4 := hwa.moved m4 (fun k hk => (hw6.lt k hk).2)
      have hiw4 := hiw6
      have hi4 := m4.off hi6 hia6
      have hw4 := m4.off hw6 hwa
      have ht4 : Hid (clampT t = (askG g x).t) := hid_mk (ht1.out.trans (ask_tr g x).1.symm)
      have hr4 : Hid (clampR r = (askG g x).r) := hid_mk (hr1.out.trans (ask_tr g x).2.symm)
      rw [HN.out] at h4 hokA ht4 hr4
      clear hi6 hw6 ht6 hb6 m4 HA HN
      go_wp2_with fail
      rotate_left
      -- waits from now on
      have HA : Hid (askA g x = 2) := (if_neg hxi).trans ((if_neg hxw).trans ((if_neg hlt1).trans (if_pos hlt2)))
      have HN : Hid (askG g x = ⟨g.t, g.r, g.i, g.w ++ [x]⟩) := (if_neg hxi).trans ((if_neg hxw).trans ((if_neg hlt1).trans (if_pos hlt2)))
      have q1 : ¬ g.i.length < clampT t := by rw [ht1.out]; exact hlt1
      have q2 : g.w.length < clampR r := by rw [hr1.out]; exact hlt2
      have q16 : g.w.length < 1000000000000 := by have := hok.wr; have := hok.r64; omega
      go_wp2_with fail
      rw [← hx]
      rw [← hx] at hokA hokL
      clear hx
      refine (has_off _ _ _ x _ hi').mono ?_
      rintro e w3 ⟨rfl, b3⟩
      have hi3 := hi'.below b3
      have hw3 := hw'.below b3
      have ht3 := ht'.below b3
      have hb3 := bthen hb' b3
      clear hi hw ht hb hi' hw' ht' hb' b3 d0 d1 B0 hbs
      rw [decide_eq_false hxi]
      go_wp2_with fail
      refine (has_off _ _ _ x _ hw3).mono ?_
      rintro e w5 ⟨rfl, b5⟩
      have hi5 := hi3.below b5
      have hw5 := hw3.below b5
      have ht5 := ht3.below b5
      have hb5 := bthen hb3 b5
      clear hi3 hw3 ht3 hb3 b5
      rw [decide_eq_false hxw]
      have hs5 := hb5.size
      go_wp2_with (at_builtin; refine app_off _ rfl (.tmp 69) (.tmp 71) 26 rfl Try.underlying26 w1.heap.size _ g.w x rfl _ rfl (by simp) hw5 hs5 q16 ?_)
      intro v6 w6 hown6 hm6
      obtain ⟨A6, cap6, e6, _, _, _⟩ := hown6.reads
      rw [List.length_append, List.length_singleton] at e6
      subst e6
      have hiw' : ∀ k, Value.ownBlock (.slice IA g.i.length icap) = some k → ¬ own (.slice WA g.w.length wcap) k := hiw
      have ht6 := ht5.other hm6 (fun k hk hf => hwa k hf hk)
      have hi6 := hm6.off hi5 hiw'
      have hw6 := hown6
      have hb6 := hb5.trans (hm6.below (fun k hk => (hw5.lt k hk).1) hs5)
      have hF5 := fun k hk => (ht5.foot k hk).2
      have hwa6 := apart_grow hwa hm6 hF5
      have hiw6 : Apart _ _ := Apart.moved hiw hm6 (fun k hk => (hi5.lt k hk).2)
      clear ht5 hw5 hi5 hb5 hown6 hm6 hs5 q1 q2 q16 hF5
      go_wp2_with fail
      refine (ask_any _ _ _ _ x _ ht6 hok).mono ?_
      rintro e w4 ⟨rfl, F4, h4, m4⟩
      rw [HA.out]
      have hb4 := hb6.trans (ht6.moved m4)
      have hia4 := hia.moved m4 (fun k hk => (hi6.lt k hk).2)
      have hwa4 := hwa6.moved m4 (fun k hk => (hw6.lt k hk).2)
      have hiw4 := hiw6
      have hi4 := m4.off hi6 hia
      have hw4 := m4.off hw6 hwa6
      have ht4 : Hid (clampT t = (askG g x).t) := hid_mk (ht1.out.trans (ask_tr g x).1.symm)
      have hr4 : Hid (clampR r = (askG g x).r) := hid_mk (hr1.out.trans (ask_tr g x).2.symm)
      rw [HN.out] at h4 hokA ht4 hr4
      clear hi6 hw6 ht6 hb6 m4 HA HN
      go_wp2_with fail
      rotate_left
      -- away
      have HA : Hid (askA g x = 0) := (if_neg hxi).trans ((if_neg hxw).trans ((if_neg hlt1).trans (if_neg hlt2)))
      have HN : Hid (askG g x = g) := (if_neg hxi).trans ((if_neg hxw).trans ((if_neg hlt1).trans (if_neg hlt2)))
      have q1 : ¬ g.i.length < clampT t := by rw [ht1.out]; exact hlt1
      have q2 : ¬ g.w.length < clampR r := by rw [hr1.out]; exact hlt2
      go_wp2_with fail
      rw [← hx]
      rw [← hx] at hokA hokL
      clear hx
      refine (has_off _ _ _ x _ hi').mono ?_
      rintro e w3 ⟨rfl, b3⟩
      have hi3 := hi'.below b3
      have hw3 := hw'.below b3
      have ht3 := ht'.below b3
      have hb3 := bthen hb' b3
      clear hi hw ht hb hi' hw' ht' hb' b3 d0 d1 B0 hbs
      rw [decide_eq_false hxi]
      go_wp2_with fail
      refine (has_off _ _ _ x _ hw3).mono ?_
      rintro e w5 ⟨rfl, b5⟩
      have hi5 := hi3.below b5
      have hw5 := hw3.below b5
      have ht5 := ht3.below b5
      have hb5 := bthen hb3 b5
      clear hi3 hw3 ht3 hb3 b5
      rw [decide_eq_false hxw]
      go_wp2_with fail
      refine (ask_any _ _ _ _ x _ ht5 hok).mono ?_
      rintro e w4 ⟨rfl, F4, h4, m4⟩
      rw [HA.out]
      have hb4 := hb5.trans (ht5.moved m4)
      have hia4 := hia.moved m4 (fun k hk => (hi5.lt k hk).2)
      have hwa4 := hwa.moved m4 (fun k hk => (hw5.lt k hk).2)
      have hiw4 := hiw
      have hi4 := m4.off hi5 hia
      have hw4 := m4.off hw5 hwa
      have ht4 : Hid (clampT t = (askG g x).t) := hid_mk (ht1.out.trans (ask_tr g x).1.symm)
      have hr4 : Hid (clampR r = (askG g x).r) := hid_mk (hr1.out.trans (ask_tr g x).2.symm)
      rw [HN.out] at h4 hokA ht4 hr4
      clear hi5 hw5 ht5 hb5 m4 HA HN
      go_wp2_with fail
      rotate_left
      -- leaves
      · go_wp2_with fail
        rw [← hx]
        rw [← hx] at hokA hokL
        clear hx
        have hl1 := hok.it
        have hl2 := hok.t16
        have hl3 := hok.wr
        have hl4 := hok.r64
        refine (without_off g.i _ _ x _ hi' (by omega)).mono ?_
        rintro e w3 ⟨v3, rfl, hv3, b3⟩
        have hw3 := hw'.below b3
        have ht3 := ht'.below b3
        have hb3 := bthen hb' b3
        clear hi hw ht hb d0 d1 B0
        go_wp2_with fail
        refine (without_off g.w _ _ x _ hw3 (by omega)).mono ?_
        rintro e w4 ⟨v4, rfl, hv4, b4⟩
        have ht4 := ht3.below b4
        have hb4 := bthen hb3 b4
        have hv3' := ownsRow_below hv3 b4
        have ha34 : Apart v3 (own v4) := fun k hk hf => by
          have h1 := (own_lt hv3 k hk).2
          have h2 := (own_lt hv4 k hf).1
          omega
        have hs3 := b3.size
        have hs4 := b4.size
        obtain ⟨N, o3, o4, hN4, hFN, hBN⟩ : ∃ N, Off N w4 v3 (but g.i x) ∧ Off N w4 v4 (but g.w x) ∧ N ≤ w4.heap.size ∧ (∀ k, F k → k < N) ∧ w1.heap.size ≤ N :=
          ⟨_, Off.of_ids hv3', Off.of_ids (ownsRow_base hv4 hs3), Nat.le_trans hs3 hs4, fun k hk => by have := (ht'.foot k hk).2; exact this, hb'.size⟩
        have hm1 := many_le g x
        have hm2 := many_le' g x
        have hbl1 := but_length g.i x
        have hbl2 := but_length g.w x
        have HT := hid_mk (show many g x = Nat.min (g.t - (but g.i x).length) (but g.w x).length from rfl)
        clear hi' hw' ht' hb' hv3 hv4 hv3' hs3 hs4 hw3 ht3 hb3 b3 b4
        go_wp2_with fail
        go_loopw [10, 11, 16] (fun iv wv cv wq => ∃ q : Nat, q ≤ many g x ∧ Off N wq iv (but g.i x ++ (but g.w x).take q) ∧ Off N wq wv ((but g.w x).drop q) ∧ Off N wq cv ((but g.w x).take q) ∧ Apart iv (own wv) ∧ Apart iv (own cv) ∧ Apart cv (own wv) ∧ Below N w4 wq) (fun _ wv _ _ => lenV wv)
        case atStart => exact ⟨0, Nat.zero_le _, by simpa using o3, by simpa using o4, .inl ⟨rfl, rfl⟩, ha34, fun k _ hf => by simp [own, Value.ownBlock] at hf, fun k hk => by simp [Value.ownBlock] at hk, Below.refl _ _⟩
        case round =>
          clear o3 o4 ha34
          obtain ⟨q, hq, oi, ow, oc, aiw, aic, acw, bq⟩ := hrel
          have hsq := bq.size
          have hNq : N ≤ wr.heap.size := by omega
          obtain ⟨D, hD⟩ : ∃ D, D = (but g.w x).drop q := ⟨_, rfl⟩
          obtain ⟨C, hC⟩ : ∃ C, C = (but g.w x).take q := ⟨_, rfl⟩
          obtain ⟨I, hI⟩ : ∃ I, I = but g.i x ++ C := ⟨_, rfl⟩
          have hDl : D.length = (but g.w x).length - q := by rw [hD, List.length_drop]
          have hCl : C.length = q := by rw [hC, List.length_take]; omega
          have hIl : I.length = (but g.i x).length + q := by rw [hI, List.length_append, hCl]
          have HDl := hid_mk hDl
          have HIl := hid_mk hIl
          have p2 : q < many g x ∨ q = many g x := by omega
          rcases p2 with p2 | p2
          · have d0 : 0 < D.length := by omega
            have p1 : I.length < clampT t := by rw [ht1.out, HIl.out]; omega
            have hx0 : gi D 0 = gi (but g.w x) q := by
              unfold gi; rw [hD, List.getD_eq_getElem?_getD, List.getElem?_drop, List.getD_eq_getElem?_getD]; rfl
            have HC1 : Hid ((but g.w x).take (q + 1) = C ++ [gi D 0]) := hid_mk (by rw [hC, hx0]; exact gi_take _ q (by omega))
            have HD1 : Hid ((but g.w x).drop (q + 1) = D.drop 1) := hid_mk (by rw [hD, List.drop_drop])
            have HI1 : Hid (but g.i x ++ (C ++ [gi D 0]) = I ++ [gi D 0]) := hid_mk (by rw [hI, List.append_assoc])
            rw [← hD] at ow
            rw [← hC] at oi oc
            rw [← hI] at oi
            have q16 : C.length < 1000000000000 := by omega
            have q17 : I.length < 1000000000000 := by omega
            clear hD hC hI hx0 hDl hCl hIl
            obtain ⟨IA', ic', rfl, hli, hci, _⟩ := oi.reads
            obtain ⟨WA', wc', rfl, hlc, hcm, hWA⟩ := ow.reads
            obtain ⟨gb, off', rfl, hgb, hc⟩ := hWA d0
            have c0 := hc 0 d0
            rw [Nat.add_zero] at c0
            obtain ⟨y, hy⟩ : ∃ y, y = gi D 0 := ⟨_, rfl⟩
            rw [← hy] at c0 HC1 HI1
            clear hc hWA hy
            go_wp2_with (at_builtin; refine app_off _ rfl (.tmp 93) (.tmp 97) 26 rfl Try.underlying26 N _ C y rfl _ rfl (by simp) oc hNq q16 ?_)
            intro v6 w6 o6 m6
            have c6 := m6.cell c0 (fun h => acw gb h rfl)
            have oi6 := m6.off oi aic
            have ow6 := m6.off ow (fun k hk hf => acw k hf hk)
            have bq6 := bq.trans (m6.below (fun k hk => (oc.lt k hk).1) hNq)
            have aic6 := aic.moved m6 (fun k hk => (oi.lt k hk).2)
            have acw6 := apart_grow acw m6 (fun k hk => (ow.lt k hk).2)
            have hN6 : N ≤ w6.heap.size := Nat.le_trans hNq m6.size
            obtain ⟨A', hA', HA'⟩ : ∃ A : Addr, (if wc' = 1 then some (⟨gb, off', none⟩ : Addr) else some ⟨gb, off' + 1, none⟩) = some A ∧ Hid (A = if wc' = 1 then ⟨gb, off', none⟩ else ⟨gb, off' + 1, none⟩) := by
              by_cases hc : wc' = 1
              · exact ⟨_, by rw [if_pos hc], hid_mk (by rw [if_pos hc])⟩
              · exact ⟨_, by rw [if_neg hc], hid_mk (by rw [if_neg hc])⟩
            have d1' : (1 : Int) ≤ (D.length : Int) := by omega
            clear oc oi ow bq m6 hNq
            go_wp2_with fail
            go_region_law (refine step_app_off_drew w6 rfl (.tmp 99) (.tmp 103) 26 rfl Try.underlying26 N _ I y (by simp [Act.eval, Act.put]) (by simp [Act.eval, Act.put]) oi6 hN6 q17 ?_; intro v7 w7 o7 m7)
            have ow7 := m7.off ow6 (fun k hk hf => aiw k hf hk)
            have o67 := m7.off o6 (fun k hk hf => aic6 k hf hk)
            have bq7 := bq6.trans (m7.below (fun k hk => (oi6.lt k hk).1) hN6)
            have aiw7 := apart_grow aiw m7 (fun k hk => (ow6.lt k hk).2)
            have aic7 := apart_grow aic6 m7 (fun k hk => (o6.lt k hk).2)
            have HAb : A'.block = gb := by
              have h := HA'.out
              by_cases hc : wc' = 1
              · rw [if_pos hc] at h; rw [h]
              · rw [if_neg hc] at h; rw [h]
            have hown' : ∀ k, own (.slice (some A') (D.length - 1) (wc' - 1)) k → own (.slice (some ⟨gb, off', none⟩) D.length wc') k := fun k hk => by
              have e : A'.block = k := by simpa [own, Value.ownBlock] using hk
              rw [← e, HAb]; rfl
            go_wp2_with fail
            refine ⟨?_, ?_⟩
            · (repeat apply Exists.intro)
              exact ⟨⟨q + 1, by omega, by rw [HC1.out, HI1.out]; exact o7, by rw [HD1.out]; exact ow7.tail rfl d0 A' HA'.out, by rw [HC1.out]; exact o67, fun k hk hf => aiw7 k hk (hown' k hf), aic7, fun k hk hf => acw6 k hk (hown' k hf), bq7⟩, rfl⟩
            · show D.length - 1 < D.length
              omega
          · have p3 : ¬ I.length < clampT t ∨ (I.length < clampT t ∧ ¬ 0 < D.length) := by
              by_cases p1 : I.length < clampT t
              · refine .inr ⟨p1, ?_⟩
                have h1 := HT.out
                have h2 := ht1.out
                rw [hDl]
                rw [hIl] at p1
                simp only [Nat.min_def] at h1
                split at h1 <;> omega
              · exact .inl p1
            have HC : Hid (C = leaveL g x) := hid_mk (by rw [hC, p2]; rfl)
            have HI : Hid (I = (leaveG g x).i) := hid_mk (by rw [hI, hC, p2]; rfl)
            have HD : Hid (D = (leaveG g x).w) := hid_mk (by rw [hD, p2]; rfl)
            rw [← hD] at ow
            rw [← hC] at oi oc
            rw [← hI] at oi
            clear hD hC hI hDl hCl hIl HDl HIl HT p2 hokA
            have hG := ht4.belowN bq hFN
            have hb5 := hb4.trans (bq.mono hBN)
            obtain ⟨IA', ic', rfl, _, _, _⟩ := oi.reads
            obtain ⟨WA', wc', rfl, _, _, _⟩ := ow.reads
            have aF : ∀ {v : Value} {l : List Int}, Off N wr v l → Apart v F := fun h k hk hf => by
              have h1 := (h.lt k hk).1
              have h2 := hFN k hf
              omega
            rcases p3 with p3 | ⟨p3, p4⟩
            all_goals
              go_wp2_with fail
              refine (leave_any g _ _ F x _ hG hok).mono ?_
              rintro e w5 ⟨v5, rfl, hv5, F5, h5, m5, a5⟩
              have oc5 := m5.off oc (aF oc)
              rw [HC.out] at oc5
              have hi5 := (m5.off oi (aF oi)).base hBN
              have hw5 := (m5.off ow (aF ow)).base hBN
              have hia4 := (aF oi).moved m5 (fun k hk => (oi.lt k hk).2)
              have hwa4 := (aF ow).moved m5 (fun k hk => (ow.lt k hk).2)
              have hb6 := hb5.trans (hG.moved m5)
              go_wp2_with fail
              refine (same_off _ _ _ _ _ _ hv5 oc5).mono ?_
              rintro e w6 ⟨rfl, b6⟩
              have h4 := h5.below b6
              have hokA := hokL
              have hi4 := hi5.below b6
              have hw4 := hw5.below b6
              have hb4 := hb6.trans (b6.mono hb6.size)
              have hiw4 := aiw
              have ht4 : Hid (clampT t = (leaveG g x).t) := ht1
              have hr4 : Hid (clampR r = (leaveG g x).r) := hr1
              clear hb6 hi5 hw5 oc5 hG
              go_wp2_with fail
              refine (inside_any _ _ _ _ _ h4 hokA).mono ?_
              rintro e w7 ⟨v7, rfl, hv7, b7⟩
              go_wp2_with fail
              refine (same_off _ _ _ _ _ _ hv7 (by rw [← HI.out]; exact hi4.below b7)).mono ?_
              rintro e w8 ⟨rfl, b8⟩
              have b78 := bthen b7 b8
              go_wp2_with fail
              refine (waiting_any _ _ _ _ _ (h4.below b78) hokA).mono ?_
              rintro e w9 ⟨v9, rfl, hv9, b9⟩
              have b79 := bthen b78 b9
              go_wp2_with fail
              refine (same_off _ _ _ _ _ _ hv9 (by rw [← HD.out]; exact hw4.below b79)).mono ?_
              rintro e w10 ⟨rfl, b10⟩
              have b80 := bthen b79 b10
              go_wp2_with fail
              refine ⟨⟨j + 1, leaveG g x, _, by go_num, by omega, h4.below b80, hokA, ht4, hr4, ?_, ?_, hia4, hwa4, hiw4, hb4.trans (b80.mono (hb4.size))⟩, by simp [intOf]; omega⟩
              · rw [← HI.out]; exact hi4.below b80
              · rw [← HD.out]; exact hw4.below b80
      all_goals
        refine (inside_any _ _ _ _ _ h4 hokA).mono ?_
        rintro e w7 ⟨v7, rfl, hv7, b7⟩
        go_wp2_with fail
        refine (same_off _ _ _ _ _ _ hv7 (hi4.below b7)).mono ?_
        rintro e w8 ⟨rfl, b8⟩
        have b78 := bthen b7 b8
        go_wp2_with fail
        refine (waiting_any _ _ _ _ _ (h4.below b78) hokA).mono ?_
        rintro e w9 ⟨v9, rfl, hv9, b9⟩
        have b79 := bthen b78 b9
        go_wp2_with fail
        refine (same_off _ _ _ _ _ _ hv9 (hw4.below b79)).mono ?_
        rintro e w10 ⟨rfl, b10⟩
        have b80 := bthen b79 b10
        go_wp2_with fail
        exact ⟨⟨j + 1, _, _, by go_num, by omega, h4.below b80, hokA, ht4, hr4, hi4.below b80, hw4.below b80, hia4, hwa4, hiw4, hb4.trans (b80.mono (hb4.size))⟩, by simp [intOf]; omega⟩
    · go_wp2_with fail
      go_ret
      exact ⟨rfl, bthen b1 hb⟩

end Go.Proofs.Ytehcliogjnpehab
