/- The walk over the law TreeMany. -/
import Derived.Test.YtfkhbppkdapkcaaTreeNodes
import Derived.Test.YtfkhbppkdapkcaaTreeRaw
import Derived.Test.YtfkhbppkdapkcaaQuietB
import Derived.BigQuiet
namespace Go.Proofs.Ytfkhbppkdapkcaa
open Go.RowKit
set_option linter.unusedVariables false
attribute [local go_sem ↓] Go.wp_at_zero Go.wp_at_succ

theorem wf_u16 {a : Int} (h : (Lit.int .u16 a).wf = true) : 0 ≤ a ∧ a ≤ 65535 := by
  simp [Lit.wf, IntKind.min, IntKind.max, IntKind.bits, IntKind.signed] at h
  omega

set_option maxHeartbeats 8000000 in
set_option maxRecDepth 100000 in
theorem many_walk (n st gone : Int) (w : World) (hn : (Lit.int .u16 n).wf = true) (hst : (Lit.int .u8 st).wf = true) (hgone : (Lit.int .u16 gone).wf = true) :
    Calls Try.prog 8 #[.int .u16 n, .int .u8 st, .int .u16 gone] w fun e w' => e = .returned (.bool true) ∧ Below w.heap.size w w' := by
  obtain ⟨n0, n1⟩ := wf_u16 hn
  obtain ⟨s0, s1⟩ := wf_u8 hst
  obtain ⟨g0, g1⟩ := wf_u16 hgone
  obtain ⟨K, hK⟩ : ∃ K : Nat, 1 + n % 400 = (K : Int) := ⟨(1 + n % 400).toNat, by omega⟩
  obtain ⟨H, hH⟩ : ∃ H : Nat, (K : Int) / 2 = (H : Int) := ⟨K / 2, by omega⟩
  have hK1 : 1 ≤ K := by omega
  have hK4 : K ≤ 400 := by omega
  have hH2 : H ≤ 200 := by omega
  clear hn hst hgone
  go_enter Try.func8, Try.ntmps8
  go_wp2_with fail
  refine (awake_any _).mono ?_
  rintro r w1 ⟨rfl, b1⟩
  have hs1 := b1.size
  go_wp2_with fail
  refine (new_any _).mono ?_
  rintro r w2 ⟨p, F0, rfl, T2, b2⟩
  have B2 := bthen b1 b2
  have HT2 := hid_mk T2
  clear b1 b2 T2
  go_wp2_with fail
  go_loopw [9] (fun iv wr => ∃ (k : Nat) (L : List E) (F : Nat → Prop), iv = .int .i64 k ∧ k ≤ K ∧ L.length ≤ k ∧ Hid (Tree w1.heap.size wr p L F) ∧ Below w.heap.size w wr) (fun iv _ => K - (intOf iv).toNat)
  case atStart => exact ⟨0, [], F0, rfl, Nat.zero_le _, Nat.le_refl _, HT2, B2⟩
  case round =>
    clear B2 HT2
    obtain ⟨k, L, F, rfl, hk, hl, T, hb⟩ := hrel
    by_cases hlt : k < K
    · have HSR := hid_mk T.out.srt
      go_wp2_with fail
      refine (tadd_any w1.heap.size p L F ⟨⟨#[]⟩, _⟩ _ T.out (by omega)).mono ?_
      rintro r w5 ⟨rfl, F', T5, m5⟩
      obtain ⟨L', HT', hL'⟩ : ∃ L', Hid (Tree w1.heap.size w5 p L' F') ∧ L'.length ≤ L.length + 1 := ⟨_, hid_mk T5, add_le HSR.out⟩
      have hb5 := hb.trans ((T.out.moved m5).mono hs1)
      clear T5 m5 hb T HSR
      go_wp2_with fail
      exact ⟨⟨k + 1, L', F', by go_num, by omega, by omega, HT', hb5⟩, by simp [intOf]; omega⟩
    · obtain rfl : k = K := by omega
      have hL400 : L.length ≤ 400 := by omega
      clear hlt hk hl
      go_wp2_with fail
      refine (right_any w1.heap.size p L F _ T.out (by omega)).mono ?_
      rintro r w3 ⟨rfl, b3⟩
      have T3 := hid_mk (T.out.below b3)
      have hb3 := hb.trans (b3.mono hb.size)
      obtain ⟨N, hN⟩ : ∃ N, N = L.length := ⟨_, rfl⟩
      have HN := hid_mk hN
      clear b3 T hb
      go_wp2_with fail
      refine (len_any w1.heap.size p L F _ T3.out).mono ?_
      rintro r w3' ⟨rfl, rfl⟩
      rw [← hN] at hL400 ⊢
      clear hN
      go_wp2_with fail
      refine (all_any w1.heap.size p L F _ T3.out (by have := HN.out; omega)).mono ?_
      rintro r w4 ⟨v4, rfl, R4, b4⟩
      obtain ⟨A4, c4, rfl, _, _, _⟩ := R4.shape
      rw [← HN.out]
      have T4 := hid_mk (T3.out.below b4)
      have hb4 := hb3.trans (b4.mono hb3.size)
      clear R4 b4 T3 hb3
      go_wp2_with fail
      refine (len_any w1.heap.size p L F _ T4.out).mono ?_
      rintro r w4' ⟨rfl, rfl⟩
      rw [← HN.out]
      have HN0 : Hid (L.length + 0 = N) := hid_mk (by have := HN.out; omega)
      go_wp2_with fail
      go_loopw [11, 12] (fun cv iv wr => ∃ (j c : Nat) (L : List E) (F : Nat → Prop), iv = .int .i64 j ∧ cv = .int .i64 c ∧ j ≤ H ∧ c ≤ j ∧ Hid (L.length + c = N) ∧ Hid (Tree w1.heap.size wr p L F) ∧ Below w.heap.size w wr) (fun _ iv _ => H - (intOf iv).toNat)
      case atStart => exact ⟨0, 0, L, F, rfl, rfl, Nat.zero_le _, Nat.le_refl _, HN0, T4, hb4⟩
      case round =>
        clear HN0 T4 hb4 HN
        obtain ⟨j, c, L, F, rfl, rfl, hj, hc, HL, T, hb⟩ := hrel
        by_cases hlt : j < H
        · have HSR := hid_mk T.out.srt
          go_wp2_with fail
          refine (tdel_any w1.heap.size p L F ⟨⟨#[]⟩, _⟩ _ T.out (by have := HL.out; omega)).mono ?_
          rintro r w5 ⟨rfl, F', T5, m5⟩
          have hb5 := hb.trans ((T.out.moved m5).mono hs1)
          by_cases hx : (⟨⟨#[]⟩, (gone + (j : Int)) % 401⟩ : E) ∈ L
          · have HT' := hid_mk T5
            have HDL := hid_mk ((del_length HSR.out).1 hx)
            rw [decide_eq_true hx]
            clear T5 m5 hb T HSR hx
            go_wp2_with fail
            exact ⟨⟨j + 1, c + 1, _, F', by go_num, by go_num, by omega, by omega, hid_mk (by have := HDL.out; have := HL.out; omega), HT', hb5⟩, by simp [intOf]; omega⟩
          · rw [(del_length HSR.out).2 hx] at T5
            have HT' := hid_mk T5
            rw [decide_eq_false hx]
            clear T5 m5 hb T HSR hx
            go_wp2_with fail
            exact ⟨⟨j + 1, c, L, F', by go_num, rfl, by omega, by omega, HL, HT', hb5⟩, by simp [intOf]; omega⟩
        · obtain rfl : j = H := by omega
          have hLN : L.length ≤ N := by have := HL.out; omega
          go_wp2_with fail
          refine (all_any w1.heap.size p L F _ T.out (by omega)).mono ?_
          rintro r w6 ⟨v6, rfl, R6, b6⟩
          have T6 := hid_mk (T.out.below b6)
          have hb6 := hb.trans (b6.mono hb.size)
          have HSR := hid_mk T.out.srt
          obtain ⟨A6, c6, rfl, hc6, hm6, hx6⟩ := rw_ents R6
          have HX6 := hid_mk hx6
          obtain ⟨Q, hQ⟩ : ∃ Q, Q = L.length := ⟨_, rfl⟩
          have HQ := hid_mk hQ
          rw [← hQ] at hc6 hLN ⊢
          clear R6 hx6 b6 T hb hQ hlt
          go_wp2_with fail
          go_loopw [72] (fun iv wr => ∃ k : Nat, iv = .int .i64 k ∧ k ≤ Q ∧ Below w6.heap.size w6 wr) (fun iv _ => Q - (intOf iv).toNat)
          case atStart => exact ⟨0, rfl, Nat.zero_le _, Below.refl _ _⟩
          case round =>
            obtain ⟨k, rfl, hk, hy⟩ := hrel
            by_cases hlt : k < Q
            · obtain ⟨g, rfl, hg, hcs⟩ := HX6.out (by have := HQ.out; omega)
              obtain ⟨d0, d1⟩ := hcs k (by have := HQ.out; omega)
              obtain ⟨y, hye⟩ : ∃ y, y = ge L k := ⟨_, rfl⟩
              rw [← hye] at d0 d1
              have hym : y ∈ L := by rw [hye]; exact ge_mem L k (by have := HQ.out; omega)
              have e0 : ∀ z : BW wr, z.w.cell? ⟨g, k * 2, none⟩ = some (.string y.key) := fun z => z.cell (keep_cell hy d0)
              have e1 : ∀ z : BW wr, z.w.cell? ⟨g, k * 2 + 1, none⟩ = some (.int .i64 y.id) := fun z => z.cell (keep_cell hy d1)
              have TY := hid_mk (T6.out.below hy)
              have HHAS : Hid (∀ z : BW wr, Calls Try.prog 18 #[.pointer (some ⟨p, 0, none⟩), .agg #[.string y.key, .int .i64 y.id]] z.w fun e w'' => e = .returned (.bool true) ∧ ∃ y : BW wr, w'' = y.w) := hid_mk fun z => (has_any w1.heap.size p L F y z.w (TY.out.below z.h)).mono (by rintro e w' ⟨rfl, b⟩; exact ⟨by rw [decide_eq_true hym], z.step b⟩)
              have HYE := hid_mk hye
              have HCS := hid_mk hcs
              clear d0 d1 hym hye hcs
              have hk0 : (0 : Int) ≤ (k : Int) := by omega
              have hk1 : (k : Int) < (Q : Int) := by omega
              by_cases hz : k = 0
              · subst hz
                go_wp2_with fail
                refine wp_region_bw wr (by kernel_rfl) (by kernel_rfl) (Below.refl _ _) ?_
                repeat (go_big_quiet_step ((first | exact HHAS.out _)))
                refine wpQuiet_nil ?_
                rintro _ ⟨z, rfl⟩
                have hyz := hy.trans (z.h.mono hy.size)
                clear HHAS TY e0 e1 hy
                go_wp2_with fail
                exact ⟨⟨0 + 1, by go_num, by omega, hyz⟩, by simp [intOf]; omega⟩
              · obtain ⟨I, hI⟩ : ∃ I, k = I + 1 := ⟨k - 1, by omega⟩
                obtain ⟨d0, d1⟩ := HCS.out I (by have := HQ.out; omega)
                obtain ⟨x, hxe⟩ : ∃ x, x = ge L I := ⟨_, rfl⟩
                rw [← hxe] at d0 d1
                have hlt9 : lt x y := by rw [hxe, HYE.out, hI]; exact srt_ge HSR.out (by omega) (by have := HQ.out; omega)
                have i0 : ∀ z : BW wr, z.w.cell? ⟨g, I * 2, none⟩ = some (.string x.key) := fun z => z.cell (keep_cell hy d0)
                have i1 : ∀ z : BW wr, z.w.cell? ⟨g, I * 2 + 1, none⟩ = some (.int .i64 x.id) := fun z => z.cell (keep_cell hy d1)
                have HBEL : Hid (∀ z : BW wr, Calls Try.prog 21 #[.agg #[.string x.key, .int .i64 x.id], .agg #[.string y.key, .int .i64 y.id]] z.w fun e w'' => e = .returned (.bool true) ∧ ∃ y : BW wr, w'' = y.w) := hid_mk fun z => (lawbelow_any x y z.w).mono (by rintro e w' ⟨rfl, b⟩; exact ⟨by rw [decide_eq_true hlt9], z.step b⟩)
                have hw1 : IntKind.i64.wrap ((k : Int) - 1) = (I : Int) := by rw [IntKind.wrap_i64]; omega
                have hI0 : (0 : Int) ≤ (I : Int) := by omega
                have hI1 : (I : Int) < (Q : Int) := by omega
                have hkp : decide (0 < k) = true := decide_eq_true (by omega)
                have hkp' : 0 < k := by omega
                clear d0 d1 hxe hlt9 hI hz
                go_wp2_with fail
                refine wp_region_bw wr (by kernel_rfl) (by kernel_rfl) (Below.refl _ _) ?_
                repeat (go_big_quiet_step ((first | exact HHAS.out _ | exact HBEL.out _)))
                refine wpQuiet_nil ?_
                rintro _ ⟨z, rfl⟩
                have hyz := hy.trans (z.h.mono hy.size)
                clear HHAS HBEL TY e0 e1 i0 i1 hy hw1 hI0 hI1 hkp
                go_wp2_with fail
                exact ⟨⟨k + 1, by go_num, by omega, hyz⟩, by simp [intOf]; omega⟩
            · obtain rfl : k = Q := by omega
              have TY := hid_mk (T6.out.below hy)
              have hby := hb6.trans (hy.mono hb6.size)
              clear hlt hy hk T6
              go_wp2_with fail
              refine (right_any w1.heap.size p L F _ TY.out (by have := HQ.out; omega)).mono ?_
              rintro r w7 ⟨rfl, b7⟩
              have T7 := hid_mk (TY.out.below b7)
              have hb7 := hby.trans (b7.mono hby.size)
              clear b7 TY hby
              have hQN : (N : Int) - (c : Int) = (k : Int) := by have := HL.out; have := HQ.out; omega
              go_wp2_with fail
              refine (len_any w1.heap.size p L F _ T7.out).mono ?_
              rintro r w8 ⟨rfl, rfl⟩
              rw [← HQ.out]
              go_wp2_with fail
              refine (len_any w1.heap.size p L F _ T7.out).mono ?_
              rintro r w9 ⟨rfl, rfl⟩
              rw [← HQ.out]
              go_wp2_with fail
              go_ret
              exact ⟨rfl, hb7⟩

end Go.Proofs.Ytfkhbppkdapkcaa
