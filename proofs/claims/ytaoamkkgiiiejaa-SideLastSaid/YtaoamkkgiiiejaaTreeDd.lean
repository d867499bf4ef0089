/- A kid that is too small: which deed mends it. -/
import Derived.Test.YtaoamkkgiiiejaaTreeDc
namespace Go.Proofs.Ytaoamkkgiiiejaa
open Go.RowKit
set_option linter.unusedVariables false
attribute [local go_sem ↓] Go.wp_at_zero Go.wp_at_succ

theorem Node.len {w : World} {ω : Ow} {a : Nat} {l : List E} {ps : List Nat} (h : Node w ω a l ps) : ∃ A cap, w.cell? ⟨a, 0, none⟩ = some (.slice A l.length cap) := by
  obtain ⟨v, u, h⟩ := h
  obtain ⟨A, cap, rfl, _⟩ := h.lany
  exact ⟨A, cap, h.cells.1⟩
theorem Node.kid {w : World} {ω : Ow} {a : Nat} {l : List E} {ps : List Nat} (h : Node w ω a l ps) (h0 : 0 < ps.length) : ∃ g cap, w.cell? ⟨a, 1, none⟩ = some (.slice (some ⟨g, 0, none⟩) ps.length cap) ∧ ∀ i p, ps[i]? = some p → w.cell? ⟨g, i, none⟩ = some (.pointer (some ⟨p, 0, none⟩)) := by
  obtain ⟨v, u, h⟩ := h
  obtain ⟨g, cap, rfl, _, _, _, hc⟩ := h.kshape h0
  refine ⟨g, cap, h.cells.2.1, fun i p hp => ?_⟩
  obtain ⟨hi, e⟩ := List.getElem?_eq_some_iff.1 hp
  rw [hc i hi, e]

set_option maxHeartbeats 1000000 in
theorem fill_ok (a c k : Nat) (ω : Ow) (l lc : List E) (ps pc : List Nat) (w : World) (ha : Node w ω a l ps) (hc : Node w ω c lc pc) (hk : k < ps.length) (hp : ps[k]? = some c) (hlc : 2 ≤ lc.length) :
    Calls Try.prog 40 #[.pointer (some ⟨a, 0, none⟩), .int .i64 (k : Int)] w fun e w' => e = .returned (.tuple #[]) ∧ w = w' := by
  obtain ⟨gk, kcap, c1, hkc⟩ := ha.kid (by omega)
  obtain ⟨A, cap, d0⟩ := hc.len
  have kk := hkc k c hp
  have hk0 : (0 : Int) ≤ (k : Int) := by omega
  have hk1 : (k : Int) < (ps.length : Int) := by omega
  have hk2 : (2 : Int) ≤ (lc.length : Int) := by omega
  clear hkc hp
  go_enter Try.func40, Try.ntmps40
  go_wp2_with fail
  first | (go_end0; exact ⟨rfl, rfl⟩) | (refine bodyPost_ret (results_none rfl _ _ _) rfl ?_; exact ⟨rfl, rfl⟩)

set_option maxHeartbeats 1000000 in
theorem fill_left (a c b j K : Nat) (ω : Ow) (l lc lb : List E) (ps pc pb : List Nat) (w : World) (ha : Node w ω a l ps) (hc : Node w ω c lc pc) (hb : Node w ω b lb pb) (hK : Hid (K = j + 1)) (hk : K < ps.length) (hp : ps[K]? = some c) (hpb : ps[j]? = some b) (hlc : lc.length < 2) (hlb : 2 < lb.length)
    (hpl : ps.length < 1000) (Q : Ending → World → Prop) (hcall : Calls Try.prog 50 #[.pointer (some ⟨a, 0, none⟩), .int .i64 (K : Int)] w Q) (hQ : ∀ e w', Q e w' → e = .returned (.tuple #[])) :
    Calls Try.prog 40 #[.pointer (some ⟨a, 0, none⟩), .int .i64 (K : Int)] w Q := by
  obtain ⟨gk, kcap, c1, hkc⟩ := ha.kid (by omega)
  obtain ⟨A, cap, d0⟩ := hc.len
  obtain ⟨A', cap', e0⟩ := hb.len
  have kk := hkc K c hp
  have kb := hkc j b hpb
  have hw1 : IntKind.i64.wrap ((K : Int) - 1) = (j : Int) := by have := hK.out; rw [IntKind.wrap_i64]; omega
  have j0 : (0 : Int) ≤ (j : Int) := by omega
  have j1 : (j : Int) < (ps.length : Int) := by have := hK.out; omega
  have hk0 : (0 : Int) ≤ (K : Int) := by omega
  have hk3 : (0 : Int) < (K : Int) := by have := hK.out; omega
  have hk1 : (K : Int) < (ps.length : Int) := by omega
  have hk2 : ¬ (2 : Int) ≤ (lc.length : Int) := by omega
  have hk4 : (2 : Int) < (lb.length : Int) := by omega
  clear hkc hp hpb hlc
  go_enter Try.func40, Try.ntmps40
  go_wp2_with (go_at_call 50; refine hcall.mono ?_; rintro e w1 hq; obtain rfl := hQ _ _ hq)
  first | (go_end0; exact hq) | (refine bodyPost_ret (results_none rfl _ _ _) rfl ?_; exact hq)

set_option maxHeartbeats 1000000 in
theorem fill_right0 (a c r : Nat) (ω : Ow) (l lc lr : List E) (ps pc pr : List Nat) (w : World) (ha : Node w ω a l ps) (hc : Node w ω c lc pc) (hr : Node w ω r lr pr) (hk : 1 < ps.length) (hp : ps[0]? = some c) (hpr : ps[1]? = some r) (hlc : lc.length < 2) (hlr : 2 < lr.length) (hl : 0 < l.length)
    (Q : Ending → World → Prop) (hcall : Calls Try.prog 51 #[.pointer (some ⟨a, 0, none⟩), .int .i64 0] w Q) (hQ : ∀ e w', Q e w' → e = .returned (.tuple #[])) :
    Calls Try.prog 40 #[.pointer (some ⟨a, 0, none⟩), .int .i64 0] w Q := by
  obtain ⟨gk, kcap, c1, hkc⟩ := ha.kid (by omega)
  obtain ⟨A, cap, d0⟩ := hc.len
  obtain ⟨A', cap', e0⟩ := hr.len
  obtain ⟨A'', cap'', f0⟩ := ha.len
  have kk := hkc 0 c hp
  have kr := hkc 1 r hpr
  have hk0 : 0 < ps.length := by omega
  have hk1 : (1 : Int) < (ps.length : Int) := by omega
  have hk2 : ¬ (2 : Int) ≤ (lc.length : Int) := by omega
  have hk4 : (2 : Int) < (lr.length : Int) := by omega
  have hk5 : (0 : Int) < (l.length : Int) := by omega
  clear hkc hp hpr hlc
  go_enter Try.func40, Try.ntmps40
  go_wp2_with (go_at_call 51; refine hcall.mono ?_; rintro e w1 hq; obtain rfl := hQ _ _ hq)
  first | (go_end0; exact hq) | (refine bodyPost_ret (results_none rfl _ _ _) rfl ?_; exact hq)

set_option maxHeartbeats 1000000 in
theorem fill_right (a c b r j K : Nat) (ω : Ow) (l lc lb lr : List E) (ps pc pb pr : List Nat) (w : World) (ha : Node w ω a l ps) (hc : Node w ω c lc pc) (hb : Node w ω b lb pb) (hr : Node w ω r lr pr) (hK : Hid (K = j + 1)) (hk : K + 1 < ps.length) (hp : ps[K]? = some c) (hpb : ps[j]? = some b) (hpr : ps[K + 1]? = some r) (hlc : lc.length < 2) (hlb : ¬ 2 < lb.length) (hlr : 2 < lr.length) (hl : K < l.length)
    (hpl : ps.length < 1000) (Q : Ending → World → Prop) (hcall : Calls Try.prog 51 #[.pointer (some ⟨a, 0, none⟩), .int .i64 (K : Int)] w Q) (hQ : ∀ e w', Q e w' → e = .returned (.tuple #[])) :
    Calls Try.prog 40 #[.pointer (some ⟨a, 0, none⟩), .int .i64 (K : Int)] w Q := by
  obtain ⟨gk, kcap, c1, hkc⟩ := ha.kid (by omega)
  obtain ⟨A, cap, d0⟩ := hc.len
  obtain ⟨A', cap', e0⟩ := hb.len
  obtain ⟨A'', cap'', f0⟩ := ha.len
  obtain ⟨A3, cap3, g0⟩ := hr.len
  have kk := hkc K c hp
  have kb := hkc j b hpb
  have kr := hkc (K + 1) r hpr
  have hw1 : IntKind.i64.wrap ((K : Int) - 1) = (j : Int) := by have := hK.out; rw [IntKind.wrap_i64]; omega
  have hw2 : IntKind.i64.wrap ((K : Int) + 1) = (K : Int) + 1 := by rw [IntKind.wrap_i64]; omega
  have j0 : (0 : Int) ≤ (j : Int) := by omega
  have j1 : (j : Int) < (ps.length : Int) := by have := hK.out; omega
  have hk0 : (0 : Int) ≤ (K : Int) := by omega
  have hk3 : (0 : Int) < (K : Int) := by have := hK.out; omega
  have hk1 : (K : Int) < (ps.length : Int) := by omega
  have hk7 : (0 : Int) ≤ (K : Int) + 1 := by omega
  have hk8 : (K : Int) + 1 < (ps.length : Int) := by omega
  have hk9 : ((K : Int) + 1).toNat = K + 1 := by omega
  have hk2 : ¬ (2 : Int) ≤ (lc.length : Int) := by omega
  have hk4 : ¬ (2 : Int) < (lb.length : Int) := by omega
  have hk5 : (2 : Int) < (lr.length : Int) := by omega
  have hk6 : (K : Int) < (l.length : Int) := by omega
  clear hkc hp hpb hpr hlc
  go_enter Try.func40, Try.ntmps40
  go_wp2_with (go_at_call 51; refine hcall.mono ?_; rintro e w1 hq; obtain rfl := hQ _ _ hq)
  first | (go_end0; exact hq) | (refine bodyPost_ret (results_none rfl _ _ _) rfl ?_; exact hq)

set_option maxHeartbeats 1000000 in
theorem fill_join0 (a c r : Nat) (ω : Ow) (l lc lr : List E) (ps pc pr : List Nat) (w : World) (ha : Node w ω a l ps) (hc : Node w ω c lc pc) (hr : Node w ω r lr pr) (hk : 1 < ps.length) (hp : ps[0]? = some c) (hpr : ps[1]? = some r) (hlc : lc.length < 2) (hlr : ¬ 2 < lr.length) (hl : 0 < l.length)
    (Q : Ending → World → Prop) (hcall : Calls Try.prog 52 #[.pointer (some ⟨a, 0, none⟩), .int .i64 0] w Q) (hQ : ∀ e w', Q e w' → e = .returned (.tuple #[])) :
    Calls Try.prog 40 #[.pointer (some ⟨a, 0, none⟩), .int .i64 0] w Q := by
  obtain ⟨gk, kcap, c1, hkc⟩ := ha.kid (by omega)
  obtain ⟨A, cap, d0⟩ := hc.len
  obtain ⟨A', cap', e0⟩ := hr.len
  obtain ⟨A'', cap'', f0⟩ := ha.len
  have kk := hkc 0 c hp
  have kr := hkc 1 r hpr
  have hk0 : 0 < ps.length := by omega
  have hk1 : (1 : Int) < (ps.length : Int) := by omega
  have hk2 : ¬ (2 : Int) ≤ (lc.length : Int) := by omega
  have hk4 : ¬ (2 : Int) < (lr.length : Int) := by omega
  have hk5 : (0 : Int) < (l.length : Int) := by omega
  clear hkc hp hpr hlc
  go_enter Try.func40, Try.ntmps40
  go_wp2_with (go_at_call 52; refine hcall.mono ?_; rintro e w1 hq; obtain rfl := hQ _ _ hq)
  first | (go_end0; exact hq) | (refine bodyPost_ret (results_none rfl _ _ _) rfl ?_; exact hq)

set_option maxHeartbeats 1000000 in
theorem fill_join (a c b r j K : Nat) (ω : Ow) (l lc lb lr : List E) (ps pc pb pr : List Nat) (w : World) (ha : Node w ω a l ps) (hc : Node w ω c lc pc) (hb : Node w ω b lb pb) (hK : Hid (K = j + 1)) (hk : K < ps.length) (hp : ps[K]? = some c) (hpb : ps[j]? = some b) (hlc : lc.length < 2) (hlb : ¬ 2 < lb.length)
    (hlr : K < l.length → Node w ω r lr pr ∧ ps[K + 1]? = some r ∧ ¬ 2 < lr.length) (hpl : ps.length < 1000) (hlk : l.length + 1 = ps.length)
    (Q : Ending → World → Prop) (hcall : Calls Try.prog 52 #[.pointer (some ⟨a, 0, none⟩), .int .i64 (j : Int)] w Q) (hQ : ∀ e w', Q e w' → e = .returned (.tuple #[])) :
    Calls Try.prog 40 #[.pointer (some ⟨a, 0, none⟩), .int .i64 (K : Int)] w Q := by
  obtain ⟨gk, kcap, c1, hkc⟩ := ha.kid (by omega)
  obtain ⟨A, cap, d0⟩ := hc.len
  obtain ⟨A', cap', e0⟩ := hb.len
  obtain ⟨A'', cap'', f0⟩ := ha.len
  have kk := hkc K c hp
  have kb := hkc j b hpb
  have hw1 : IntKind.i64.wrap ((K : Int) - 1) = (j : Int) := by have := hK.out; rw [IntKind.wrap_i64]; omega
  have j0 : (0 : Int) ≤ (j : Int) := by omega
  have j1 : (j : Int) < (ps.length : Int) := by have := hK.out; omega
  have hk0 : (0 : Int) ≤ (K : Int) := by omega
  have hk3 : (0 : Int) < (K : Int) := by have := hK.out; omega
  have hk1 : (K : Int) < (ps.length : Int) := by omega
  have hk2 : ¬ (2 : Int) ≤ (lc.length : Int) := by omega
  have hk4 : ¬ (2 : Int) < (lb.length : Int) := by omega
  have HL := hid_mk hlk
  by_cases hl : K < l.length
  · obtain ⟨hr, hpr, hlr⟩ := hlr hl
    obtain ⟨A3, cap3, g0⟩ := hr.len
    have kr := hkc (K + 1) r hpr
    have hw2 : IntKind.i64.wrap ((K : Int) + 1) = (K : Int) + 1 := by rw [IntKind.wrap_i64]; omega
    have hk7 : (0 : Int) ≤ (K : Int) + 1 := by omega
    have hk8 : (K : Int) + 1 < (ps.length : Int) := by omega
    have hk9 : ((K : Int) + 1).toNat = K + 1 := by omega
    have hk5 : ¬ (2 : Int) < (lr.length : Int) := by omega
    have hk6 : (K : Int) < (l.length : Int) := by omega
    clear hkc hp hpb hpr hlc hlk
    go_enter Try.func40, Try.ntmps40
    go_wp2_with (go_at_call 52; refine hcall.mono ?_; rintro e w1 hq; obtain rfl := hQ _ _ hq)
    first | (go_end0; exact hq) | (refine bodyPost_ret (results_none rfl _ _ _) rfl ?_; exact hq)
  · have hk6 : ¬ (K : Int) < (l.length : Int) := by omega
    clear hkc hp hpb hlr hlc hlk
    go_enter Try.func40, Try.ntmps40
    go_wp2_with (go_at_call 52; refine hcall.mono ?_; rintro e w1 hq; obtain rfl := hQ _ _ hq)
    first | (go_end0; exact hq) | (refine bodyPost_ret (results_none rfl _ _ _) rfl ?_; exact hq)

end Go.Proofs.Ytaoamkkgiiiejaa
