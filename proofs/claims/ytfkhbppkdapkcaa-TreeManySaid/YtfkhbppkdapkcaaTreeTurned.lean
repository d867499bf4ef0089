/- The walk over the law TreeTurned. -/
import Derived.Test.YtfkhbppkdapkcaaTreeW
import Derived.Test.YtfkhbppkdapkcaaTreeAct
namespace Go.Proofs.Ytfkhbppkdapkcaa
open Go.RowKit
set_option linter.unusedVariables false
attribute [local go_sem ↓] Go.wp_at_zero Go.wp_at_succ

theorem srt_eq : ∀ (a b : List E), Srt a → Srt b → (∀ x, x ∈ a ↔ x ∈ b) → a = b
  | [], [], _, _, _ => rfl
  | [], y :: b, _, _, h => absurd ((h y).2 (List.mem_cons_self ..)) (by simp)
  | x :: a, [], _, _, h => absurd ((h x).1 (List.mem_cons_self ..)) (by simp)
  | x :: a, y :: b, ha, hb, h => by
    have hx : ∀ z ∈ a, lt x z := fun z hz => List.rel_of_pairwise_cons ha hz
    have hy : ∀ z ∈ b, lt y z := fun z hz => List.rel_of_pairwise_cons hb hz
    have hxy : x = y := by
      rcases List.mem_cons.1 ((h x).1 (List.mem_cons_self ..)) with h1 | h1
      · exact h1
      · rcases List.mem_cons.1 ((h y).2 (List.mem_cons_self ..)) with h2 | h2
        · exact h2.symm
        · exact absurd (hx y h2) (lt_asymm (hy x h1))
    subst hxy
    have hab := srt_eq a b (List.Pairwise.of_cons ha) (List.Pairwise.of_cons hb) fun z => by
      constructor
      · intro hz
        rcases List.mem_cons.1 ((h z).1 (List.mem_cons_of_mem _ hz)) with h1 | h1
        · exact absurd (h1 ▸ hx z hz) (lt_irrefl x)
        · exact h1
      · intro hz
        rcases List.mem_cons.1 ((h z).2 (List.mem_cons_of_mem _ hz)) with h1 | h1
        · exact absurd (h1 ▸ hy z hz) (lt_irrefl x)
        · exact h1
    rw [hab]
theorem add_le {e : E} {L : List E} (hs : Srt L) : (add e L).length ≤ L.length + 1 := by
  rw [add_length hs]; split <;> omega

set_option maxHeartbeats 4000000 in
set_option maxRecDepth 100000 in
theorem turned_walk (A : Option Addr) (n cap : Nat) (xs : List A8) (w : World) (hin : InA8 w A n cap xs) :
    Calls Try.prog 3 #[.slice A n cap] w fun e w' => e = .returned (.bool true) ∧ Below w.heap.size w w' := by
  obtain ⟨hxl, hnc, hcap, hoks, hA⟩ := hin
  obtain ⟨m, hmn, hm100, _, hmin⟩ := min_fact Try.prog n 100 (by omega)
  have hmc : m ≤ cap := by omega
  have HOKS := hid_mk hoks
  have HA := hid_mk hA
  clear hoks hA hxl
  go_enter Try.func3, Try.ntmps3
  go_wp2_with fail
  refine (awake_any _).mono ?_
  rintro e w1 ⟨rfl, b1⟩
  go_wp2_with fail
  refine (new_any _).mono ?_
  rintro e w2 ⟨p, F, rfl, T1, b2⟩
  go_wp2_with fail
  refine (new_any _).mono ?_
  rintro e w3 ⟨q, G, rfl, T2, b3⟩
  have hs1 := b1.size
  have hs2 := b2.size
  have hb3 := bthen (bthen b1 b2) b3
  have HT0 : Hid (∃ F G, Tree w1.heap.size w3 p [] F ∧ Tree w1.heap.size w3 q [] G ∧ ∀ k, F k → ¬ G k) := hid_mk (by
    obtain ⟨h, t, ω, H, h1, h2⟩ := T2
    refine ⟨F, G, T1.below b3, ⟨h, t, ω, ⟨H.blk, Nat.le_trans hs2 H.base, H.free, H.good, H.four, H.one, H.srt, H.tr, fun b a hb => by have := H.ok b a hb; omega⟩, h1, h2⟩, fun k hk hg => ?_⟩
    have h3 := (T1.foot k hk).2
    have h4 : w2.heap.size ≤ k := (Tree.foot (B := w2.heap.size) (w := w3) (p := q) (L := []) (F := G) ⟨h, t, ω, H, h1, h2⟩ k hg).1
    omega)
  clear T1 T2 b1 b2 b3
  go_wp2_with fail
  clear hmin
  go_loopw [23] (fun iv wr => ∃ (k : Nat) (L1 L2 : List E) (F G : Nat → Prop), iv = .int .i64 k ∧ k ≤ m ∧ Hid (Tree w1.heap.size wr p L1 F) ∧ Hid (Tree w1.heap.size wr q L2 G) ∧ Hid (∀ x, F x → ¬ G x) ∧ Hid (∀ x, x ∈ L1 ↔ ∃ j, j < k ∧ (a8 xs j).ent = x) ∧ Hid (∀ x, x ∈ L2 ↔ ∃ j, j < k ∧ (a8 xs (m - 1 - j)).ent = x) ∧
    L1.length ≤ k ∧ L2.length ≤ k ∧ Below w.heap.size w wr) (fun iv _ => m - (intOf iv).toNat)
  case atStart =>
    obtain ⟨F, G, h1, h2, h3⟩ := HT0.out
    exact ⟨0, [], [], F, G, rfl, Nat.zero_le _, hid_mk h1, hid_mk h2, hid_mk h3, hid_mk (by simp), hid_mk (by simp), Nat.le_refl _, Nat.le_refl _, hb3⟩
  case round =>
    clear HT0 hb3
    obtain ⟨k, L1, L2, F, G, rfl, hk, T1, T2, HD, M1, M2, hl1, hl2, hb⟩ := hrel
    by_cases hlt : k < m
    · obtain ⟨b, off, rfl, hbw, hcs⟩ := HA.out (by omega)
      obtain ⟨c0, c1, c2⟩ := hcs k (by omega)
      obtain ⟨r, hr⟩ : ∃ r, r = m - 1 - k := ⟨_, rfl⟩
      obtain ⟨e0, e1, e2⟩ := hcs r (by omega)
      have hrI : (m : Int) - 1 - (k : Int) = (r : Int) := by omega
      have hrm : r < m := by omega
      have c0' := keep_cell hb c0
      have c1' := keep_cell hb c1
      have c2' := keep_cell hb c2
      have HR := hid_mk hr
      have HO1 := hid_mk (HOKS.out k (by omega))
      have HO2 := hid_mk (HOKS.out r (by omega))
      obtain ⟨x, hx⟩ : ∃ x, x = a8 xs k := ⟨_, rfl⟩
      obtain ⟨y, hy⟩ : ∃ y, y = a8 xs r := ⟨_, rfl⟩
      rw [← hx] at c0' c1' c2' HO1
      rw [← hy] at e0 e1 e2 HO2
      have HX := hid_mk hx
      have HY := hid_mk hy
      clear hcs c0 c1 c2 hr hx hy
      go_wp2_with fail
      refine (entry_any x _ HO1.out).mono ?_
      rintro e w4 ⟨rfl, b4⟩
      have T1' := hid_mk (T1.out.below b4)
      have T2' := hid_mk (T2.out.below b4)
      have hb4 := hb.trans (b4.mono hb.size)
      clear b4 c0' c1' c2' hb
      go_wp2_with fail
      refine (tadd_any w1.heap.size p L1 F x.ent _ T1'.out (by omega)).mono ?_
      rintro e w5 ⟨rfl, F', T3, m3⟩
      have T4 := hid_mk (T2'.out.other m3 fun z hg hf => HD.out z hf hg)
      have HD2 : Hid (∀ z, F' z → ¬ G z) := hid_mk fun z hf hg => by
        rcases m3.new z hf with h1 | h1
        · exact HD.out z h1 hg
        · have := (T2'.out.foot z hg).2; omega
      have hb5 := hb4.trans ((T1'.out.moved m3).mono hs1)
      have T3' := hid_mk T3
      have HS1 := hid_mk T1'.out.srt
      have HS2 := hid_mk T2'.out.srt
      have hL1 := add_le (e := x.ent) HS1.out
      have hL2 := add_le (e := y.ent) HS2.out
      have e0' := keep_cell hb5 e0
      have e1' := keep_cell hb5 e1
      have e2' := keep_cell hb5 e2
      clear m3 T3 T1' T2' e0 e1 e2 hb4 T1 T2
      go_wp2_with fail
      refine (entry_any y _ HO2.out).mono ?_
      rintro e w6 ⟨rfl, b6⟩
      have T5 := hid_mk (T3'.out.below b6)
      have T6 := hid_mk (T4.out.below b6)
      have hb6 := hb5.trans (b6.mono hb5.size)
      clear b6 e0' e1' e2' hb5 T3' T4
      go_wp2_with fail
      refine (tadd_any w1.heap.size q L2 G y.ent _ T6.out (by omega)).mono ?_
      rintro e w7 ⟨rfl, G', T7, m7⟩
      have T8 := hid_mk (T5.out.other m7 fun z hf hg => HD2.out z hf hg)
      have HD3 : Hid (∀ z, F' z → ¬ G' z) := hid_mk fun z hf hg => by
        rcases m7.new z hg with h1 | h1
        · exact HD2.out z hf h1
        · have := (T5.out.foot z hf).2; omega
      have hb7 := hb6.trans ((T6.out.moved m7).mono hs1)
      have T7' := hid_mk T7
      have M1' : Hid (∀ z, z ∈ add x.ent L1 ↔ ∃ j, j < k + 1 ∧ (a8 xs j).ent = z) := hid_mk fun z => by
        rw [mem_add _ _ _ HS1.out, M1.out z]
        constructor
        · rintro (h1 | ⟨j, h1, h2⟩)
          · exact ⟨k, by omega, by rw [← HX.out, h1]⟩
          · exact ⟨j, by omega, h2⟩
        · rintro ⟨j, h1, h2⟩
          by_cases hjk : j = k
          · subst hjk; exact .inl (by rw [HX.out, h2])
          · exact .inr ⟨j, by omega, h2⟩
      have M2' : Hid (∀ z, z ∈ add y.ent L2 ↔ ∃ j, j < k + 1 ∧ (a8 xs (m - 1 - j)).ent = z) := hid_mk fun z => by
        rw [mem_add _ _ _ HS2.out, M2.out z]
        constructor
        · rintro (h1 | ⟨j, h1, h2⟩)
          · exact ⟨k, by omega, by rw [← HR.out, ← HY.out, h1]⟩
          · exact ⟨j, by omega, h2⟩
        · rintro ⟨j, h1, h2⟩
          by_cases hjk : j = k
          · subst hjk; exact .inl (by rw [HY.out, HR.out, h2])
          · exact .inr ⟨j, by omega, h2⟩
      clear m7 T7 T5 T6 hb6
      go_wp2_with fail
      exact ⟨⟨k + 1, add x.ent L1, add y.ent L2, F', G', by go_num, by omega, T8, T7', HD3, M1', M2', by omega, by omega, hb7⟩, by simp [intOf]; omega⟩
    · obtain rfl : k = m := by omega
      have hEQ : L1 = L2 := srt_eq L1 L2 T1.out.srt T2.out.srt fun z => by
        rw [M1.out z, M2.out z]
        constructor
        · rintro ⟨j, h1, h2⟩
          exact ⟨k - 1 - j, by omega, by rw [show k - 1 - (k - 1 - j) = j by omega]; exact h2⟩
        · rintro ⟨j, h1, h2⟩
          exact ⟨k - 1 - j, by omega, h2⟩
      subst hEQ
      clear M1 M2
      go_wp2_with fail
      refine (all_any w1.heap.size p L1 F _ T1.out (by omega)).mono ?_
      rintro e w4 ⟨v4, rfl, R4, b4⟩
      have T4 := hid_mk (T2.out.below b4)
      have hb4 := hb.trans (b4.mono hb.size)
      have HR4 := hid_mk R4
      clear b4 R4
      go_wp2_with fail
      refine (all_any w1.heap.size q L1 G _ T4.out (by omega)).mono ?_
      rintro e w5 ⟨v5, rfl, R5, b5⟩
      have R4' := HR4.out.below b5
      have T5 := hid_mk (T4.out.below b5)
      have hb5 := hb4.trans (b5.mono hb4.size)
      clear b5
      go_wp2_with fail
      refine (same_true L1 _ _ v4 v5 _ R4' R5).mono ?_
      rintro e w6 ⟨rfl, b6⟩
      have T6 := hid_mk (T5.out.below b6)
      have hb6 := hb5.trans (b6.mono hb5.size)
      clear R4' R5 b6
      go_wp2_with fail
      refine (right_any w1.heap.size q L1 G _ T6.out (by omega)).mono ?_
      rintro e w7 ⟨rfl, b7⟩
      have hb7 := hb6.trans (b7.mono hb6.size)
      go_wp2_with fail
      go_ret
      exact ⟨rfl, hb7⟩

end Go.Proofs.Ytfkhbppkdapkcaa
