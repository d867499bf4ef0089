/- The document's examples of layer 8. -/
import Derived.Test.YtfkhbppkdapkcaaTreeO
namespace Go.Proofs.Ytfkhbppkdapkcaa
open Go.RowKit
set_option linter.unusedVariables false
attribute [local go_sem ↓] Go.wp_at_zero Go.wp_at_succ

theorem add_last {e : E} {L : List E} (h : ∀ x ∈ L, lt x e) : add e L = L ++ [e] ∧ e ∉ L := by
  have h1 : e ∉ L := fun h9 => lt_irrefl e (h e h9)
  refine ⟨?_, h1⟩
  unfold add ins
  rw [if_neg h1, below_all h, above_none fun x hx => .inl (h x hx)]
def exE (i : Nat) : E := ⟨⟨#[97]⟩, (i : Int)⟩
def exL (k : Nat) : List E := (List.range k).map fun i => exE (i + 1)
theorem exE_lt {i j : Nat} (h : i < j) : lt (exE i) (exE j) := by
  unfold lt cmpE kcmp exE
  simp only [cb_self, if_true]
  unfold sgn
  rw [if_pos (by omega)]
  omega
theorem exL_succ (k : Nat) : add (exE (k + 1)) (exL k) = exL (k + 1) ∧ exE (k + 1) ∉ exL k := by
  have h : ∀ x ∈ exL k, lt x (exE (k + 1)) := fun x hx => by
    unfold exL at hx
    obtain ⟨i, hi, rfl⟩ := List.mem_map.1 hx
    have := List.mem_range.1 hi
    exact exE_lt (by omega)
  obtain ⟨h1, h2⟩ := add_last h
  refine ⟨?_, h2⟩
  rw [h1]
  unfold exL
  rw [List.range_succ, List.map_append]
  rfl
theorem exL_length (k : Nat) : (exL k).length = k := by simp [exL]
theorem exL_ge (k i : Nat) (h : i < k) : ge (exL k) i = exE (i + 1) := by
  rw [ge_get _ _ (by rw [exL_length]; exact h)]
  simp [exL]

set_option maxHeartbeats 4000000 in
set_option maxRecDepth 100000 in
theorem awake_any (w : World) : Calls Try.prog 10 #[] w fun r w' => r = .returned (.bool true) ∧ Below w.heap.size w w' := by
  go_enter Try.func10, Try.ntmps10
  go_wp2_with fail
  refine (new_any _).mono ?_
  rintro r w1 ⟨p, F, rfl, H, b1⟩
  have H1 := hid_mk (show Tree w.heap.size w1 p (exL 0) F from H)
  clear H
  go_wp2_with fail
  go_loopw [2] (fun s2 wr => ∃ (k : Nat) (F : Nat → Prop), s2 = .int .i64 ((k : Int) + 1) ∧ k ≤ 5 ∧ Hid (Tree w.heap.size wr p (exL k) F) ∧ Below w.heap.size w wr) (fun s2 _ => (6 - intOf s2).toNat)
  case atStart => exact ⟨0, F, rfl, by omega, H1, b1⟩
  case round =>
    clear H1 b1
    obtain ⟨k, F, rfl, hk, HT, hb⟩ := hrel
    by_cases hlt : k < 5
    · have hle : (k : Int) + 1 ≤ 5 := by omega
      obtain ⟨x1, x2⟩ := exL_succ k
      have HX1 := hid_mk x1
      have HX2 := hid_mk x2
      clear x1 x2
      go_wp2_with fail
      refine (tadd_any w.heap.size p (exL k) F (exE (k + 1)) _ HT.out (by rw [exL_length]; omega)).mono ?_
      rintro r w2 ⟨rfl, F', T', M'⟩
      rw [decide_eq_true HX2.out]
      rw [HX1.out] at T'
      have HT' := hid_mk T'
      have hb' := hb.trans (HT.out.moved M')
      clear M' T' hb HT
      go_wp2_with fail
      exact ⟨⟨k + 1, F', congrArg (Value.int .i64) (by omega), by omega, HT', hb'⟩, by simp [intOf]; omega⟩
    · obtain rfl : k = 5 := by omega
      have hle : ¬ ((5 : Nat) : Int) + 1 ≤ 5 := by omega
      have HT0 := HT.out
      obtain ⟨h, t, ω, HAT, hents, hF⟩ := HT0
      have hlen : (ents h t).length = 5 := by rw [← hents, exL_length]
      have hfive := five HAT.good HAT.four HAT.one hlen
      have HA := hid_mk HAT
      have HF5 := hid_mk hfive
      have HLEN := hid_mk hlen
      clear HAT hents hF hlen hfive
      go_wp2_with fail
      refine (nodes_meth w.heap.size p h t ω _ HA.out (by rw [HLEN.out]; omega)).mono ?_
      rintro r w2 ⟨v, rfl, R, b2⟩
      rw [HF5.out] at R
      obtain ⟨Av, cap, rfl, hcap, hcapm, hA0, hAs⟩ := R.shape
      rcases Av with _ | Av
      · exact absurd (hA0 rfl).1 (by simp)
      obtain ⟨g, rfl, _, hg, _, hcell⟩ := hAs _ rfl
      have d0 := hcell 0 _ rfl
      have d1 := hcell 1 _ rfl
      have d2 := hcell 2 _ rfl
      have d3 := hcell 3 _ rfl
      have d4 := hcell 4 _ rfl
      have d5 := hcell 5 _ rfl
      have HT2 := hid_mk (HT.out.below b2)
      have hb2 := hb.trans (b2.mono hb.size)
      clear R hA0 hAs hcell HT
      go_wp2_with fail
      refine (after_any w.heap.size p (exL 5) F (exE 2) _ HT2.out).mono ?_
      rintro r w3 ⟨rfl, b3⟩
      have hAB : hd (above (exE 2) (exL 5)) = (exE 3, true) := by
        have h1 : above (ge (exL 5) 1) (exL 5) = (exL 5).drop 2 := above_get HT2.out.srt 1 (by rw [exL_length]; omega)
        rw [exL_ge 5 1 (by omega)] at h1
        rw [h1, hd_drop _ _ (by rw [exL_length]; omega), exL_ge 5 2 (by omega)]
      rw [hAB]
      have e0 := keep_cell b3 d0
      have e1 := keep_cell b3 d1
      have e2 := keep_cell b3 d2
      have e3 := keep_cell b3 d3
      have e4 := keep_cell b3 d4
      have e5 := keep_cell b3 d5
      have hb3 := hb2.trans (b3.mono hb2.size)
      have HT3 := hid_mk (HT2.out.below b3)
      have hg3 : g < w3.heap.size := Nat.lt_of_lt_of_le hg b3.size
      have hne : w3.heap.size ≠ g := by omega
      simp only [exE] at *
      clear d0 d1 d2 d3 d4 d5 b3 hAB
      go_wp2_with fail
      refine (len_any w.heap.size p _ F _ (HT3.out.below (balloc _))).mono ?_
      rintro r w4 ⟨rfl, rfl⟩
      rw [exL_length]
      go_wp2_with fail
      go_ret
      exact ⟨rfl, hb3.trans (balloc' hb3.size)⟩

end Go.Proofs.Ytfkhbppkdapkcaa
