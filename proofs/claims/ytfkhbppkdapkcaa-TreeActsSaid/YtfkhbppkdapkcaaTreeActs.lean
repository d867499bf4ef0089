/- The walk over the law TreeActs. -/
import Derived.Test.YtfkhbppkdapkcaaTreeNodes
import Derived.Test.YtfkhbppkdapkcaaTreeRaw
import Derived.Test.YtfkhbppkdapkcaaTreeSteps
import Derived.Test.YtfkhbppkdapkcaaQuietB
import Derived.BigQuiet
namespace Go.Proofs.Ytfkhbppkdapkcaa
open Go.RowKit
set_option linter.unusedVariables false
attribute [local go_sem ↓] Go.wp_at_zero Go.wp_at_succ

theorem hd_ge {L : List E} (h : 0 < L.length) : hd L = (ge L 0, true) := by
  rcases L with _ | ⟨x, r⟩
  · simp at h
  · rfl
theorem tl_ge {L : List E} {M : Nat} (h : L.length = M + 1) : tl L = (ge L M, true) := by
  unfold tl
  rw [List.getLast?_eq_getElem?, List.getElem?_eq_getElem (by omega), ← ge_get L _ (by omega), h]; rfl
theorem hd_nil : hd [] = (⟨⟨#[]⟩, 0⟩, false) := rfl
theorem mem_add_self (e : E) (L : List E) : e ∈ add e L := by
  unfold add ins
  split
  · assumption
  · simp
theorem not_mem_del (e : E) (L : List E) : e ∉ del e L := fun h => ((mem_del e e L).1 h).1 rfl

set_option maxHeartbeats 16000000 in
set_option maxRecDepth 100000 in
theorem acts_walk (A : Option Addr) (n cap : Nat) (xs : List A8) (w : World) (hin : InA8 w A n cap xs) :
    Calls Try.prog 9 #[.slice A n cap] w fun e w' => e = .returned (.bool true) ∧ Below w.heap.size w w' := by
  obtain ⟨hxl, hnc, hcap, hoks, hA⟩ := hin
  obtain ⟨m, hmn, hm100, _, hmin⟩ := min_fact Try.prog n 120 (by omega)
  have hmc : m ≤ cap := by omega
  have HOKS := hid_mk hoks
  have HA := hid_mk hA
  clear hoks hA hxl
  go_enter Try.func9, Try.ntmps9
  go_wp2_with fail
  refine (awake_any _).mono ?_
  rintro r w1 ⟨rfl, b1⟩
  have hs1 := b1.size
  go_wp2_with fail
  refine (new_any _).mono ?_
  rintro r w2 ⟨p, F0, rfl, T2, b2⟩
  have B2 := bthen b1 b2
  have HT2 := hid_mk T2
  clear b1 b2 T2
  go_wp2_with fail
  clear hmin
  go_loopw [4, 26] (fun o iv wr => ∃ (k : Nat) (L : List E) (F : Nat → Prop), iv = .int .i64 k ∧ k ≤ m ∧ L.length ≤ k ∧ Hid (Tree w1.heap.size wr p L F) ∧ Hid (Rw w1.heap.size wr 28 2 o L.length (ecells L)) ∧ Hid (Apart o F) ∧ Below w.heap.size w wr) (fun _ iv _ => m - (intOf iv).toNat)
  case atStart => exact ⟨0, [], F0, rfl, Nat.zero_le _, Nat.le_refl _, HT2, Rw.nil _ _ _ _, fun k h => by simp [Value.ownBlock] at h, B2⟩
  case round =>
    clear B2 HT2
    obtain ⟨k, L, F, rfl, hk, hl, T, R, HAP, hb⟩ := hrel
    obtain ⟨Ao, co, rfl, hlc, hco, _, _⟩ := R.out.shape
    by_cases hlt : k < m
    · obtain ⟨b, off, rfl, hbw, hcs⟩ := HA.out (by omega)
      obtain ⟨c0, c1, c2⟩ := hcs k (by omega)
      obtain ⟨x, hx⟩ : ∃ x, x = a8 xs k := ⟨_, rfl⟩
      rw [← hx] at c0 c1 c2
      have c0' := keep_cell hb c0
      have c1' := keep_cell hb c1
      have c2' := keep_cell hb c2
      have HO := hid_mk (HOKS.out k (by omega))
      rw [← hx] at HO
      have HSR := hid_mk T.out.srt
      have ba : Below wr.heap.size wr (wr.alloc (.cells #[.int .u8 x.kind, .int .u8 x.key, .int .u8 x.id] 30)) := balloc _
      have YA := heap_alloc_new wr (.cells #[.int .u8 x.kind, .int .u8 x.key, .int .u8 x.id] 30)
      clear hcs c0 c1 c2 hx
      go_wp2_with fail
      refine (entry_any x _ HO.out).mono ?_
      rintro r w3 ⟨rfl, b3⟩
      obtain ⟨q, hq⟩ : ∃ q, q = x.ent := ⟨_, rfl⟩
      rw [← hq]
      clear hq
      have hs3 : wr.heap.size < w3.heap.size := by have := b3.size; simp at this; omega
      have YA3 := below_block b3 (by simp) YA
      have b4 : Below w3.heap.size w3 (w3.alloc (.cells #[.string q.key, .int .i64 q.id] 28)) := balloc _
      have YA4 := below_block b4 hs3 YA3
      have YQ := heap_alloc_new w3 (.cells #[.string q.key, .int .i64 q.id] 28)
      have bb := bthen (bthen ba b3) b4
      have T4 := hid_mk (T.out.below bb)
      have R4 := hid_mk (R.out.below bb)
      have hb4 := hb.trans (bb.mono hb.size)
      have HYA := hid_mk YA4
      have HYQ := hid_mk YQ
      have ya0 := (cell_of_row _ _ 0 _ _ _ YA4).trans rfl
      have hlT := (T.out.size).1
      have HNY : Hid (∀ j, F j → j < wr.heap.size) := hid_mk fun j hj => (T.out.foot j hj).2
      clear ba b3 b4 bb YA YA3 YA4 YQ T R hb c0' c1' c2'
      by_cases hkd : x.kind < 140
      · go_wp2_with fail
        refine (with_any w1.heap.size L _ q true _ R4.out HSR.out (by omega)).mono ?_
        rintro r w5 ⟨u, rfl, R5, b5⟩
        rw [withL_true] at R5
        rw [with_true]
        obtain ⟨z, hz⟩ : ∃ z, z = decide (q ∉ L) := ⟨_, rfl⟩
        rw [← hz]
        have HZ := hid_mk hz
        have hlt5 : wr.heap.size < w3.heap.size := hs3
        obtain ⟨A5, c5, rfl, _, _, _, _⟩ := R5.shape
        have T5 := hid_mk (T4.out.below b5)
        have YA5 := hid_mk (below_block b5 (lt_of_block HYA.out) HYA.out)
        have YQ5 := hid_mk (below_block b5 (lt_of_block HYQ.out) HYQ.out)
        have v0 := (cell_of_row w5 _ 0 _ _ _ YA5.out).trans rfl
        have u0 := (cell_of_row w5 _ 0 _ _ _ YQ5.out).trans rfl
        have u1 := (cell_of_row w5 _ 1 _ _ _ YQ5.out).trans rfl
        have hb5 := hb4.trans (b5.mono hb4.size)
        have AP5 : Hid (Apart (Value.slice A5 (add q L).length c5) F) := hid_mk fun j hj hf => by
          have h1 := (R5.lt j hj).1
          have h2 := HNY.out j hf
          simp at h1
          omega
        have HR5 := hid_mk (R5.base (show w1.heap.size ≤ _ by simp; omega))
        have haL := add_le (e := q) HSR.out
        clear hz b5 R5 ya0 T4 R4 HYA HYQ hb4
        go_wp2_with fail
        refine (tadd_any w1.heap.size p L F q _ T5.out (by omega)).mono ?_
        rintro r w6 ⟨rfl, F', T6, m6⟩
        have R6 := hid_mk (m6.rw_ HR5.out AP5.out)
        have AP6 := hid_mk (AP5.out.moved m6 fun j hj => (HR5.out.lt j hj).2)
        have hb6 := hb5.trans ((T5.out.moved m6).mono (by omega))
        have HT6 := hid_mk T6
        have HYA6 := hid_mk (m6.at_ YA5.out (fun h9 => by have := HNY.out _ h9; omega))
        have HYQ6 := hid_mk (m6.at_ YQ5.out (fun h9 => by have := HNY.out _ h9; omega))
        obtain ⟨L1, hL1⟩ : ∃ L1, L1 = add q L := ⟨_, rfl⟩
        have HMEM : Hid (decide (q ∈ L1) = true) := hid_mk (by rw [hL1]; exact decide_eq_true (mem_add_self q L))
        rw [← hL1] at HT6 R6 AP6 haL ⊢
        rw [← HZ.out]
        clear m6 T6 T5 HR5 AP5 YA5 YQ5 hb5 v0 u0 u1 hL1
        have hzz := nb_self z
        go_wp2_with fail
        refine (first_any w1.heap.size p L1 F' _ HT6.out).mono ?_
        rintro r w7 ⟨rfl, b7⟩
        have T7 := hid_mk (HT6.out.below b7)
        have R7 := hid_mk (R6.out.below b7)
        have YA7 := hid_mk (below_block b7 (lt_of_block HYA6.out) HYA6.out)
        have YQ7 := hid_mk (below_block b7 (lt_of_block HYQ6.out) HYQ6.out)
        have hb7 := hb6.trans (b7.mono hb6.size)
        clear b7 HT6 R6 HYA6 HYQ6 hb6
        by_cases h0 : L1.length = 0
        · have hL1n : L1 = [] := List.eq_nil_of_length_eq_zero h0
          have h00 : ((0 : Nat) : Int) = 0 := rfl
          rw [show hd L1 = (⟨⟨#[]⟩, 0⟩, false) from by rw [hL1n]; exact hd_nil]
          have HTL : Hid (tl L1 = (⟨⟨#[]⟩, 0⟩, false)) := hid_mk (by rw [hL1n]; exact tl_nil)
          have b8 : Below w7.heap.size w7 (w7.alloc (.cells #[.string ⟨#[]⟩, .int .i64 0] 28)) := balloc _
          have X8 := heap_alloc_new w7 (.cells #[.string ⟨#[]⟩, .int .i64 0] 28)
          have T8 := hid_mk (T7.out.below b8)
          have R8 := hid_mk (R7.out.below b8)
          have YA8 := hid_mk (below_block b8 (lt_of_block YA7.out) YA7.out)
          have YQ8 := hid_mk (below_block b8 (lt_of_block YQ7.out) YQ7.out)
          have hb8 := hb7.trans (b8.mono hb7.size)
          have HX8 := hid_mk X8
          clear b8 T7 R7 YA7 YQ7 hb7 X8 hL1n
          rw [h0] at R8 ⊢
          go_wp2_with fail
          refine (last_any w1.heap.size p L1 F' _ T8.out).mono ?_
          rintro r w9 ⟨rfl, b9⟩
          rw [HTL.out]
          have bA : Below w9.heap.size w9 (w9.alloc (.cells #[.string ⟨#[]⟩, .int .i64 0] 28)) := balloc _
          have bb9 := bthen b9 bA
          have TA := hid_mk (T8.out.below bb9)
          have RA := hid_mk (R8.out.below bb9)
          have YAA := hid_mk (below_block bb9 (lt_of_block YA8.out) YA8.out)
          have YQA := hid_mk (below_block bb9 (lt_of_block YQ8.out) YQ8.out)
          have XA := hid_mk (below_block bb9 (lt_of_block HX8.out) HX8.out)
          have XB := hid_mk (heap_alloc_new w9 (.cells #[.string ⟨#[]⟩, .int .i64 0] 28))
          have hbA := hb8.trans (bb9.mono hb8.size)
          have q0 := (cell_of_row _ _ 0 _ _ _ YQA.out).trans rfl
          have q1 := (cell_of_row _ _ 1 _ _ _ YQA.out).trans rfl
          clear b9 bA bb9 T8 R8 YA8 YQ8 hb8 HX8
          have x0 := (cell_of_row _ _ 0 _ _ _ XA.out).trans rfl
          have x1 := (cell_of_row _ _ 1 _ _ _ XA.out).trans rfl
          have y0 := (cell_of_row _ _ 0 _ _ _ XB.out).trans rfl
          have y1 := (cell_of_row _ _ 1 _ _ _ XB.out).trans rfl
          have k0 := (cell_of_row _ _ 0 _ _ _ YAA.out).trans rfl
          obtain ⟨W9, hW9⟩ : ∃ W9, W9 = (w9.alloc (.cells #[.string ⟨#[]⟩, .int .i64 0] 28)) := ⟨_, rfl⟩
          rw [← hW9] at TA RA YAA YQA XA XB hbA k0 q0 q1 x0 x1 y0 y1
          have k0' : ∀ z : BW W9, z.w.cell? ⟨wr.heap.size, 0, none⟩ = some (.int .u8 x.kind) := fun z => z.cell k0
          have q0' : ∀ z : BW W9, z.w.cell? ⟨w3.heap.size, 0, none⟩ = some (.string q.key) := fun z => z.cell q0
          have q1' : ∀ z : BW W9, z.w.cell? ⟨w3.heap.size, 1, none⟩ = some (.int .i64 q.id) := fun z => z.cell q1
          have x0' : ∀ z : BW W9, z.w.cell? ⟨w7.heap.size, 0, none⟩ = some (.string ⟨#[]⟩) := fun z => z.cell x0
          have x1' : ∀ z : BW W9, z.w.cell? ⟨w7.heap.size, 1, none⟩ = some (.int .i64 0) := fun z => z.cell x1
          have y0' : ∀ z : BW W9, z.w.cell? ⟨w9.heap.size, 0, none⟩ = some (.string ⟨#[]⟩) := fun z => z.cell y0
          have y1' : ∀ z : BW W9, z.w.cell? ⟨w9.heap.size, 1, none⟩ = some (.int .i64 0) := fun z => z.cell y1
          have HLEN : Hid (∀ z : BW W9, Calls Try.prog 23 #[.pointer (some ⟨p, 0, none⟩)] z.w fun e w'' => e = .returned (.int .i64 0) ∧ ∃ y : BW W9, w'' = y.w) := hid_mk fun z => (len_any w1.heap.size p L1 F' z.w (TA.out.below z.h)).mono (by rintro e w' ⟨rfl, rfl⟩; exact ⟨by rw [h0]; rfl, z, rfl⟩)
          have HHAS : Hid (∀ z : BW W9, Calls Try.prog 18 #[.pointer (some ⟨p, 0, none⟩), .agg #[.string q.key, .int .i64 q.id]] z.w fun e w'' => e = .returned (.bool true) ∧ ∃ y : BW W9, w'' = y.w) := hid_mk fun z => (has_any w1.heap.size p L1 F' q z.w (TA.out.below z.h)).mono (by rintro e w' ⟨rfl, b⟩; exact ⟨by rw [HMEM.out], z.step b⟩)
          clear YAA YQA XA XB k0 q0 q1 x0 x1 y0 y1
          go_wp2_with fail
          (try simp only [List.append_eq, List.cons_append, List.nil_append])
          rw [← hW9]
          clear hW9
          refine wp_region_bw W9 (by kernel_rfl) (by kernel_rfl) (Below.refl _ _) ?_
          repeat (go_big_quiet_step ((first | exact HLEN.out _ | exact HHAS.out _)))
          refine wpQuiet_nil ?_
          rintro _ ⟨z, rfl⟩
          have TC := hid_mk (TA.out.below z.h)
          have RC := hid_mk (RA.out.below z.h)
          have hbC := hbA.trans (z.h.mono hbA.size)
          clear TA RA hbA HLEN HHAS
          go_wp2_with fail
          exact ⟨⟨k + 1, L1, F', by go_num, by omega, by omega, TC, hid_mk (by rw [h0]; exact RC.out), hid_mk (by have h9 := AP6.out; rw [h0] at h9; exact h9), hbC⟩, by simp [intOf]; omega⟩
        · have hpos : 0 < L1.length := by omega
          obtain ⟨M, hM⟩ : ∃ M, L1.length = M + 1 := ⟨L1.length - 1, by omega⟩
          have HTL := hid_mk (tl_ge hM)
          rw [hd_ge hpos]
          obtain ⟨f, hf⟩ : ∃ f, f = ge L1 0 := ⟨_, rfl⟩
          obtain ⟨g, hg⟩ : ∃ g, g = ge L1 M := ⟨_, rfl⟩
          rw [← hf]
          rw [← hg] at HTL
          have HF := hid_mk hf
          have HG := hid_mk hg
          have b8 : Below w7.heap.size w7 (w7.alloc (.cells #[.string f.key, .int .i64 f.id] 28)) := balloc _
          have X8 := heap_alloc_new w7 (.cells #[.string f.key, .int .i64 f.id] 28)
          have T8 := hid_mk (T7.out.below b8)
          have R8 := hid_mk (R7.out.below b8)
          have YA8 := hid_mk (below_block b8 (lt_of_block YA7.out) YA7.out)
          have YQ8 := hid_mk (below_block b8 (lt_of_block YQ7.out) YQ7.out)
          have hb8 := hb7.trans (b8.mono hb7.size)
          have HX8 := hid_mk X8
          obtain ⟨N, hN⟩ : ∃ N, N = L1.length := ⟨_, rfl⟩
          have HN := hid_mk hN
          have HMN : N = M + 1 := by omega
          have HMN' := hid_mk HMN
          rw [← hN] at haL hpos ⊢
          rw [← hN] at R8
          clear b8 T7 R7 YA7 YQ7 hb7 X8 hf hg h0 hM hN HMN
          go_wp2_with fail
          refine (last_any w1.heap.size p L1 F' _ T8.out).mono ?_
          rintro r w9 ⟨rfl, b9⟩
          rw [HTL.out]
          have bA : Below w9.heap.size w9 (w9.alloc (.cells #[.string g.key, .int .i64 g.id] 28)) := balloc _
          have bb9 := bthen b9 bA
          have TA := hid_mk (T8.out.below bb9)
          have RA := hid_mk (R8.out.below bb9)
          have YAA := hid_mk (below_block bb9 (lt_of_block YA8.out) YA8.out)
          have YQA := hid_mk (below_block bb9 (lt_of_block YQ8.out) YQ8.out)
          have XA := hid_mk (below_block bb9 (lt_of_block HX8.out) HX8.out)
          have XB := hid_mk (heap_alloc_new w9 (.cells #[.string g.key, .int .i64 g.id] 28))
          have hbA := hb8.trans (bb9.mono hb8.size)
          have q0 := (cell_of_row _ _ 0 _ _ _ YQA.out).trans rfl
          have q1 := (cell_of_row _ _ 1 _ _ _ YQA.out).trans rfl
          clear b9 bA bb9 T8 R8 YA8 YQ8 hb8 HX8
          have x0 := (cell_of_row _ _ 0 _ _ _ XA.out).trans rfl
          have x1 := (cell_of_row _ _ 1 _ _ _ XA.out).trans rfl
          have y0 := (cell_of_row _ _ 0 _ _ _ XB.out).trans rfl
          have y1 := (cell_of_row _ _ 1 _ _ _ XB.out).trans rfl
          have k0 := (cell_of_row _ _ 0 _ _ _ YAA.out).trans rfl
          have RC' : Rw w1.heap.size (w9.alloc (.cells #[.string g.key, .int .i64 g.id] 28)) 28 2 (.slice A5 N c5) L1.length (ecells L1) := by rw [← HN.out]; exact RA.out
          obtain ⟨A9, c9, he9, _, _, hx9⟩ := rw_ents RC'
          rw [← HN.out] at he9
          injection he9 with q3 q4 q5
          subst q3 q5
          obtain ⟨g9, rfl, hg9, hcs⟩ := hx9 (by have := HN.out; omega)
          obtain ⟨s0, s1⟩ := hcs 0 (by have := HN.out; omega)
          simp only [Nat.zero_mul, Nat.zero_add] at s0 s1
          obtain ⟨t0, t1⟩ := hcs M (by have := HN.out; have := HMN'.out; omega)
          rw [← HF.out] at s0 s1
          rw [← HG.out] at t0 t1
          have hwM : IntKind.i64.wrap ((N : Int) - 1) = (M : Int) := by have := HMN'.out; rw [IntKind.wrap_i64]; omega
          have hM0 : (0 : Int) ≤ (M : Int) := by omega
          have hM1 : (M : Int) < (N : Int) := by have := HMN'.out; omega
          have hposI : (0 : Int) < (N : Int) := by omega
          clear hcs hx9 RC' q4
          obtain ⟨W9, hW9⟩ : ∃ W9, W9 = (w9.alloc (.cells #[.string g.key, .int .i64 g.id] 28)) := ⟨_, rfl⟩
          rw [← hW9] at TA RA YAA YQA XA XB hbA k0 q0 q1 x0 x1 y0 y1 s0 s1 t0 t1
          have k0' : ∀ z : BW W9, z.w.cell? ⟨wr.heap.size, 0, none⟩ = some (.int .u8 x.kind) := fun z => z.cell k0
          have q0' : ∀ z : BW W9, z.w.cell? ⟨w3.heap.size, 0, none⟩ = some (.string q.key) := fun z => z.cell q0
          have q1' : ∀ z : BW W9, z.w.cell? ⟨w3.heap.size, 1, none⟩ = some (.int .i64 q.id) := fun z => z.cell q1
          have x0' : ∀ z : BW W9, z.w.cell? ⟨w7.heap.size, 0, none⟩ = some (.string f.key) := fun z => z.cell x0
          have x1' : ∀ z : BW W9, z.w.cell? ⟨w7.heap.size, 1, none⟩ = some (.int .i64 f.id) := fun z => z.cell x1
          have y0' : ∀ z : BW W9, z.w.cell? ⟨w9.heap.size, 0, none⟩ = some (.string g.key) := fun z => z.cell y0
          have y1' : ∀ z : BW W9, z.w.cell? ⟨w9.heap.size, 1, none⟩ = some (.int .i64 g.id) := fun z => z.cell y1
          have s0' : ∀ z : BW W9, z.w.cell? ⟨g9, 0, none⟩ = some (.string f.key) := fun z => z.cell s0
          have s1' : ∀ z : BW W9, z.w.cell? ⟨g9, 1, none⟩ = some (.int .i64 f.id) := fun z => z.cell s1
          have t0' : ∀ z : BW W9, z.w.cell? ⟨g9, M * 2, none⟩ = some (.string g.key) := fun z => z.cell t0
          have t1' : ∀ z : BW W9, z.w.cell? ⟨g9, M * 2 + 1, none⟩ = some (.int .i64 g.id) := fun z => z.cell t1
          have HLEN : Hid (∀ z : BW W9, Calls Try.prog 23 #[.pointer (some ⟨p, 0, none⟩)] z.w fun e w'' => e = .returned (.int .i64 (N : Nat)) ∧ ∃ y : BW W9, w'' = y.w) := hid_mk fun z => (len_any w1.heap.size p L1 F' z.w (TA.out.below z.h)).mono (by rintro e w' ⟨rfl, rfl⟩; exact ⟨by rw [HN.out], z, rfl⟩)
          have HHAS : Hid (∀ z : BW W9, Calls Try.prog 18 #[.pointer (some ⟨p, 0, none⟩), .agg #[.string q.key, .int .i64 q.id]] z.w fun e w'' => e = .returned (.bool true) ∧ ∃ y : BW W9, w'' = y.w) := hid_mk fun z => (has_any w1.heap.size p L1 F' q z.w (TA.out.below z.h)).mono (by rintro e w' ⟨rfl, b⟩; exact ⟨by rw [HMEM.out], z.step b⟩)
          clear YAA YQA XA XB k0 q0 q1 x0 x1 y0 y1 s0 s1 t0 t1
          go_wp2_with fail
          (try simp only [List.append_eq, List.cons_append, List.nil_append])
          rw [← hW9]
          clear hW9
          refine wp_region_bw W9 (by kernel_rfl) (by kernel_rfl) (Below.refl _ _) ?_
          repeat (go_big_quiet_step ((first | exact HLEN.out _ | exact HHAS.out _)))
          refine wpQuiet_nil ?_
          rintro _ ⟨z, rfl⟩
          have TC := hid_mk (TA.out.below z.h)
          have RC := hid_mk (RA.out.below z.h)
          have hbC := hbA.trans (z.h.mono hbA.size)
          clear TA RA hbA HLEN HHAS
          go_wp2_with fail
          exact ⟨⟨k + 1, L1, F', by go_num, by omega, by have := HN.out; omega, TC, hid_mk (by rw [← HN.out]; exact RC.out), AP6, hbC⟩, by simp [intOf]; omega⟩
      · have hd9 : decide (x.kind < 140) = false := decide_eq_false hkd
        go_wp2_with fail
        refine (with_any w1.heap.size L _ q false _ R4.out HSR.out (by omega)).mono ?_
        rintro r w5 ⟨u, rfl, R5, b5⟩
        rw [withL_false] at R5
        rw [with_false]
        obtain ⟨z, hz⟩ : ∃ z, z = decide (q ∈ L) := ⟨_, rfl⟩
        rw [← hz]
        have HZ := hid_mk hz
        have hlt5 : wr.heap.size < w3.heap.size := hs3
        obtain ⟨A5, c5, rfl, _, _, _, _⟩ := R5.shape
        have T5 := hid_mk (T4.out.below b5)
        have YA5 := hid_mk (below_block b5 (lt_of_block HYA.out) HYA.out)
        have YQ5 := hid_mk (below_block b5 (lt_of_block HYQ.out) HYQ.out)
        have v0 := (cell_of_row w5 _ 0 _ _ _ YA5.out).trans rfl
        have u0 := (cell_of_row w5 _ 0 _ _ _ YQ5.out).trans rfl
        have u1 := (cell_of_row w5 _ 1 _ _ _ YQ5.out).trans rfl
        have hb5 := hb4.trans (b5.mono hb4.size)
        have AP5 : Hid (Apart (Value.slice A5 (del q L).length c5) F) := hid_mk fun j hj hf => by
          have h1 := (R5.lt j hj).1
          have h2 := HNY.out j hf
          simp at h1
          omega
        have HR5 := hid_mk (R5.base (show w1.heap.size ≤ _ by simp; omega))
        have haL := del_le (e := q) HSR.out
        clear hz b5 R5 ya0 T4 R4 HYA HYQ hb4
        go_wp2_with fail
        refine (tdel_any w1.heap.size p L F q _ T5.out (by omega)).mono ?_
        rintro r w6 ⟨rfl, F', T6, m6⟩
        have R6 := hid_mk (m6.rw_ HR5.out AP5.out)
        have AP6 := hid_mk (AP5.out.moved m6 fun j hj => (HR5.out.lt j hj).2)
        have hb6 := hb5.trans ((T5.out.moved m6).mono (by omega))
        have HT6 := hid_mk T6
        have HYA6 := hid_mk (m6.at_ YA5.out (fun h9 => by have := HNY.out _ h9; omega))
        have HYQ6 := hid_mk (m6.at_ YQ5.out (fun h9 => by have := HNY.out _ h9; omega))
        obtain ⟨L1, hL1⟩ : ∃ L1, L1 = del q L := ⟨_, rfl⟩
        have HMEM : Hid (decide (q ∈ L1) = false) := hid_mk (by rw [hL1]; exact decide_eq_false (not_mem_del q L))
        rw [← hL1] at HT6 R6 AP6 haL ⊢
        rw [← HZ.out]
        clear m6 T6 T5 HR5 AP5 YA5 YQ5 hb5 v0 u0 u1 hL1
        have hzz := nb_self z
        go_wp2_with fail
        refine (first_any w1.heap.size p L1 F' _ HT6.out).mono ?_
        rintro r w7 ⟨rfl, b7⟩
        have T7 := hid_mk (HT6.out.below b7)
        have R7 := hid_mk (R6.out.below b7)
        have YA7 := hid_mk (below_block b7 (lt_of_block HYA6.out) HYA6.out)
        have YQ7 := hid_mk (below_block b7 (lt_of_block HYQ6.out) HYQ6.out)
        have hb7 := hb6.trans (b7.mono hb6.size)
        clear b7 HT6 R6 HYA6 HYQ6 hb6
        by_cases h0 : L1.length = 0
        · have hL1n : L1 = [] := List.eq_nil_of_length_eq_zero h0
          have h00 : ((0 : Nat) : Int) = 0 := rfl
          rw [show hd L1 = (⟨⟨#[]⟩, 0⟩, false) from by rw [hL1n]; exact hd_nil]
          have HTL : Hid (tl L1 = (⟨⟨#[]⟩, 0⟩, false)) := hid_mk (by rw [hL1n]; exact tl_nil)
          have b8 : Below w7.heap.size w7 (w7.alloc (.cells #[.string ⟨#[]⟩, .int .i64 0] 28)) := balloc _
          have X8 := heap_alloc_new w7 (.cells #[.string ⟨#[]⟩, .int .i64 0] 28)
          have T8 := hid_mk (T7.out.below b8)
          have R8 := hid_mk (R7.out.below b8)
          have YA8 := hid_mk (below_block b8 (lt_of_block YA7.out) YA7.out)
          have YQ8 := hid_mk (below_block b8 (lt_of_block YQ7.out) YQ7.out)
          have hb8 := hb7.trans (b8.mono hb7.size)
          have HX8 := hid_mk X8
          clear b8 T7 R7 YA7 YQ7 hb7 X8 hL1n
          rw [h0] at R8 ⊢
          go_wp2_with fail
          refine (last_any w1.heap.size p L1 F' _ T8.out).mono ?_
          rintro r w9 ⟨rfl, b9⟩
          rw [HTL.out]
          have bA : Below w9.heap.size w9 (w9.alloc (.cells #[.string ⟨#[]⟩, .int .i64 0] 28)) := balloc _
          have bb9 := bthen b9 bA
          have TA := hid_mk (T8.out.below bb9)
          have RA := hid_mk (R8.out.below bb9)
          have YAA := hid_mk (below_block bb9 (lt_of_block YA8.out) YA8.out)
          have YQA := hid_mk (below_block bb9 (lt_of_block YQ8.out) YQ8.out)
          have XA := hid_mk (below_block bb9 (lt_of_block HX8.out) HX8.out)
          have XB := hid_mk (heap_alloc_new w9 (.cells #[.string ⟨#[]⟩, .int .i64 0] 28))
          have hbA := hb8.trans (bb9.mono hb8.size)
          have q0 := (cell_of_row _ _ 0 _ _ _ YQA.out).trans rfl
          have q1 := (cell_of_row _ _ 1 _ _ _ YQA.out).trans rfl
          clear b9 bA bb9 T8 R8 YA8 YQ8 hb8 HX8
          have x0 := (cell_of_row _ _ 0 _ _ _ XA.out).trans rfl
          have x1 := (cell_of_row _ _ 1 _ _ _ XA.out).trans rfl
          have y0 := (cell_of_row _ _ 0 _ _ _ XB.out).trans rfl
          have y1 := (cell_of_row _ _ 1 _ _ _ XB.out).trans rfl
          have k0 := (cell_of_row _ _ 0 _ _ _ YAA.out).trans rfl
          obtain ⟨W9, hW9⟩ : ∃ W9, W9 = (w9.alloc (.cells #[.string ⟨#[]⟩, .int .i64 0] 28)) := ⟨_, rfl⟩
          rw [← hW9] at TA RA YAA YQA XA XB hbA k0 q0 q1 x0 x1 y0 y1
          have k0' : ∀ z : BW W9, z.w.cell? ⟨wr.heap.size, 0, none⟩ = some (.int .u8 x.kind) := fun z => z.cell k0
          have q0' : ∀ z : BW W9, z.w.cell? ⟨w3.heap.size, 0, none⟩ = some (.string q.key) := fun z => z.cell q0
          have q1' : ∀ z : BW W9, z.w.cell? ⟨w3.heap.size, 1, none⟩ = some (.int .i64 q.id) := fun z => z.cell q1
          have x0' : ∀ z : BW W9, z.w.cell? ⟨w7.heap.size, 0, none⟩ = some (.string ⟨#[]⟩) := fun z => z.cell x0
          have x1' : ∀ z : BW W9, z.w.cell? ⟨w7.heap.size, 1, none⟩ = some (.int .i64 0) := fun z => z.cell x1
          have y0' : ∀ z : BW W9, z.w.cell? ⟨w9.heap.size, 0, none⟩ = some (.string ⟨#[]⟩) := fun z => z.cell y0
          have y1' : ∀ z : BW W9, z.w.cell? ⟨w9.heap.size, 1, none⟩ = some (.int .i64 0) := fun z => z.cell y1
          have HLEN : Hid (∀ z : BW W9, Calls Try.prog 23 #[.pointer (some ⟨p, 0, none⟩)] z.w fun e w'' => e = .returned (.int .i64 0) ∧ ∃ y : BW W9, w'' = y.w) := hid_mk fun z => (len_any w1.heap.size p L1 F' z.w (TA.out.below z.h)).mono (by rintro e w' ⟨rfl, rfl⟩; exact ⟨by rw [h0]; rfl, z, rfl⟩)
          have HHAS : Hid (∀ z : BW W9, Calls Try.prog 18 #[.pointer (some ⟨p, 0, none⟩), .agg #[.string q.key, .int .i64 q.id]] z.w fun e w'' => e = .returned (.bool false) ∧ ∃ y : BW W9, w'' = y.w) := hid_mk fun z => (has_any w1.heap.size p L1 F' q z.w (TA.out.below z.h)).mono (by rintro e w' ⟨rfl, b⟩; exact ⟨by rw [HMEM.out], z.step b⟩)
          clear YAA YQA XA XB k0 q0 q1 x0 x1 y0 y1
          go_wp2_with fail
          (try simp only [List.append_eq, List.cons_append, List.nil_append])
          rw [← hW9]
          clear hW9
          refine wp_region_bw W9 (by kernel_rfl) (by kernel_rfl) (Below.refl _ _) ?_
          repeat (go_big_quiet_step ((first | exact HLEN.out _ | exact HHAS.out _)))
          refine wpQuiet_nil ?_
          rintro _ ⟨z, rfl⟩
          have TC := hid_mk (TA.out.below z.h)
          have RC := hid_mk (RA.out.below z.h)
          have hbC := hbA.trans (z.h.mono hbA.size)
          clear TA RA hbA HLEN HHAS
          go_wp2_with fail
          exact ⟨⟨k + 1, L1, F', by go_num, by omega, by omega, TC, hid_mk (by rw [h0]; exact RC.out), hid_mk (by have h9 := AP6.out; rw [h0] at h9; exact h9), hbC⟩, by simp [intOf]; omega⟩
        · have hpos : 0 < L1.length := by omega
          obtain ⟨M, hM⟩ : ∃ M, L1.length = M + 1 := ⟨L1.length - 1, by omega⟩
          have HTL := hid_mk (tl_ge hM)
          rw [hd_ge hpos]
          obtain ⟨f, hf⟩ : ∃ f, f = ge L1 0 := ⟨_, rfl⟩
          obtain ⟨g, hg⟩ : ∃ g, g = ge L1 M := ⟨_, rfl⟩
          rw [← hf]
          rw [← hg] at HTL
          have HF := hid_mk hf
          have HG := hid_mk hg
          have b8 : Below w7.heap.size w7 (w7.alloc (.cells #[.string f.key, .int .i64 f.id] 28)) := balloc _
          have X8 := heap_alloc_new w7 (.cells #[.string f.key, .int .i64 f.id] 28)
          have T8 := hid_mk (T7.out.below b8)
          have R8 := hid_mk (R7.out.below b8)
          have YA8 := hid_mk (below_block b8 (lt_of_block YA7.out) YA7.out)
          have YQ8 := hid_mk (below_block b8 (lt_of_block YQ7.out) YQ7.out)
          have hb8 := hb7.trans (b8.mono hb7.size)
          have HX8 := hid_mk X8
          obtain ⟨N, hN⟩ : ∃ N, N = L1.length := ⟨_, rfl⟩
          have HN := hid_mk hN
          have HMN : N = M + 1 := by omega
          have HMN' := hid_mk HMN
          rw [← hN] at haL hpos ⊢
          rw [← hN] at R8
          clear b8 T7 R7 YA7 YQ7 hb7 X8 hf hg h0 hM hN HMN
          go_wp2_with fail
          refine (last_any w1.heap.size p L1 F' _ T8.out).mono ?_
          rintro r w9 ⟨rfl, b9⟩
          rw [HTL.out]
          have bA : Below w9.heap.size w9 (w9.alloc (.cells #[.string g.key, .int .i64 g.id] 28)) := balloc _
          have bb9 := bthen b9 bA
          have TA := hid_mk (T8.out.below bb9)
          have RA := hid_mk (R8.out.below bb9)
          have YAA := hid_mk (below_block bb9 (lt_of_block YA8.out) YA8.out)
          have YQA := hid_mk (below_block bb9 (lt_of_block YQ8.out) YQ8.out)
          have XA := hid_mk (below_block bb9 (lt_of_block HX8.out) HX8.out)
          have XB := hid_mk (heap_alloc_new w9 (.cells #[.string g.key, .int .i64 g.id] 28))
          have hbA := hb8.trans (bb9.mono hb8.size)
          have q0 := (cell_of_row _ _ 0 _ _ _ YQA.out).trans rfl
          have q1 := (cell_of_row _ _ 1 _ _ _ YQA.out).trans rfl
          clear b9 bA bb9 T8 R8 YA8 YQ8 hb8 HX8
          have x0 := (cell_of_row _ _ 0 _ _ _ XA.out).trans rfl
          have x1 := (cell_of_row _ _ 1 _ _ _ XA.out).trans rfl
          have y0 := (cell_of_row _ _ 0 _ _ _ XB.out).trans rfl
          have y1 := (cell_of_row _ _ 1 _ _ _ XB.out).trans rfl
          have k0 := (cell_of_row _ _ 0 _ _ _ YAA.out).trans rfl
          have RC' : Rw w1.heap.size (w9.alloc (.cells #[.string g.key, .int .i64 g.id] 28)) 28 2 (.slice A5 N c5) L1.length (ecells L1) := by rw [← HN.out]; exact RA.out
          obtain ⟨A9, c9, he9, _, _, hx9⟩ := rw_ents RC'
          rw [← HN.out] at he9
          injection he9 with q3 q4 q5
          subst q3 q5
          obtain ⟨g9, rfl, hg9, hcs⟩ := hx9 (by have := HN.out; omega)
          obtain ⟨s0, s1⟩ := hcs 0 (by have := HN.out; omega)
          simp only [Nat.zero_mul, Nat.zero_add] at s0 s1
          obtain ⟨t0, t1⟩ := hcs M (by have := HN.out; have := HMN'.out; omega)
          rw [← HF.out] at s0 s1
          rw [← HG.out] at t0 t1
          have hwM : IntKind.i64.wrap ((N : Int) - 1) = (M : Int) := by have := HMN'.out; rw [IntKind.wrap_i64]; omega
          have hM0 : (0 : Int) ≤ (M : Int) := by omega
          have hM1 : (M : Int) < (N : Int) := by have := HMN'.out; omega
          have hposI : (0 : Int) < (N : Int) := by omega
          clear hcs hx9 RC' q4
          obtain ⟨W9, hW9⟩ : ∃ W9, W9 = (w9.alloc (.cells #[.string g.key, .int .i64 g.id] 28)) := ⟨_, rfl⟩
          rw [← hW9] at TA RA YAA YQA XA XB hbA k0 q0 q1 x0 x1 y0 y1 s0 s1 t0 t1
          have k0' : ∀ z : BW W9, z.w.cell? ⟨wr.heap.size, 0, none⟩ = some (.int .u8 x.kind) := fun z => z.cell k0
          have q0' : ∀ z : BW W9, z.w.cell? ⟨w3.heap.size, 0, none⟩ = some (.string q.key) := fun z => z.cell q0
          have q1' : ∀ z : BW W9, z.w.cell? ⟨w3.heap.size, 1, none⟩ = some (.int .i64 q.id) := fun z => z.cell q1
          have x0' : ∀ z : BW W9, z.w.cell? ⟨w7.heap.size, 0, none⟩ = some (.string f.key) := fun z => z.cell x0
          have x1' : ∀ z : BW W9, z.w.cell? ⟨w7.heap.size, 1, none⟩ = some (.int .i64 f.id) := fun z => z.cell x1
          have y0' : ∀ z : BW W9, z.w.cell? ⟨w9.heap.size, 0, none⟩ = some (.string g.key) := fun z => z.cell y0
          have y1' : ∀ z : BW W9, z.w.cell? ⟨w9.heap.size, 1, none⟩ = some (.int .i64 g.id) := fun z => z.cell y1
          have s0' : ∀ z : BW W9, z.w.cell? ⟨g9, 0, none⟩ = some (.string f.key) := fun z => z.cell s0
          have s1' : ∀ z : BW W9, z.w.cell? ⟨g9, 1, none⟩ = some (.int .i64 f.id) := fun z => z.cell s1
          have t0' : ∀ z : BW W9, z.w.cell? ⟨g9, M * 2, none⟩ = some (.string g.key) := fun z => z.cell t0
          have t1' : ∀ z : BW W9, z.w.cell? ⟨g9, M * 2 + 1, none⟩ = some (.int .i64 g.id) := fun z => z.cell t1
          have HLEN : Hid (∀ z : BW W9, Calls Try.prog 23 #[.pointer (some ⟨p, 0, none⟩)] z.w fun e w'' => e = .returned (.int .i64 (N : Nat)) ∧ ∃ y : BW W9, w'' = y.w) := hid_mk fun z => (len_any w1.heap.size p L1 F' z.w (TA.out.below z.h)).mono (by rintro e w' ⟨rfl, rfl⟩; exact ⟨by rw [HN.out], z, rfl⟩)
          have HHAS : Hid (∀ z : BW W9, Calls Try.prog 18 #[.pointer (some ⟨p, 0, none⟩), .agg #[.string q.key, .int .i64 q.id]] z.w fun e w'' => e = .returned (.bool false) ∧ ∃ y : BW W9, w'' = y.w) := hid_mk fun z => (has_any w1.heap.size p L1 F' q z.w (TA.out.below z.h)).mono (by rintro e w' ⟨rfl, b⟩; exact ⟨by rw [HMEM.out], z.step b⟩)
          clear YAA YQA XA XB k0 q0 q1 x0 x1 y0 y1 s0 s1 t0 t1
          go_wp2_with fail
          (try simp only [List.append_eq, List.cons_append, List.nil_append])
          rw [← hW9]
          clear hW9
          refine wp_region_bw W9 (by kernel_rfl) (by kernel_rfl) (Below.refl _ _) ?_
          repeat (go_big_quiet_step ((first | exact HLEN.out _ | exact HHAS.out _)))
          refine wpQuiet_nil ?_
          rintro _ ⟨z, rfl⟩
          have TC := hid_mk (TA.out.below z.h)
          have RC := hid_mk (RA.out.below z.h)
          have hbC := hbA.trans (z.h.mono hbA.size)
          clear TA RA hbA HLEN HHAS
          go_wp2_with fail
          exact ⟨⟨k + 1, L1, F', by go_num, by omega, by have := HN.out; omega, TC, hid_mk (by rw [← HN.out]; exact RC.out), AP6, hbC⟩, by simp [intOf]; omega⟩
    · obtain rfl : k = m := by omega
      go_wp2_with fail
      refine (all_any w1.heap.size p L F _ T.out (by omega)).mono ?_
      rintro r w6 ⟨v6, rfl, R7, b6⟩
      have R8 := hid_mk (R.out.below b6)
      have HR7 := hid_mk R7
      have hb6 := hb.trans (b6.mono hb.size)
      clear R7 b6 T R hb
      go_wp2_with fail
      refine (same_true L _ _ v6 _ _ HR7.out R8.out).mono ?_
      rintro r w7 ⟨rfl, b7⟩
      have hb7 := hb6.trans (b7.mono hb6.size)
      go_wp2_with fail
      go_ret
      exact ⟨rfl, hb7⟩

end Go.Proofs.Ytfkhbppkdapkcaa
