/- The walk over the law WalkMoves. -/
import Derived.Test.YtanomhjekdefeaaWalkSeq
namespace Go.Proofs.Ytanomhjekdefeaa
open Go.RowKit
set_option linter.unusedVariables false
attribute [local go_sem ↓] Go.wp_at_zero Go.wp_at_succ

theorem Wt.turned {B : Nat} {w w' : World} {tp : Nat} {L L' : List E} {F F' : Nat → Prop} {p : Nat} {r : Rg} {m : Mk} (H : Wt B w tp L F p r m) (T : Tree B w' tp L' F') (h : Mv F F' w w') : Wt B w' tp L' F' p r m :=
  ⟨T, h.at_ H.wk H.apart, H.base, fun hf => by
    rcases h.new _ hf with h1 | h1
    · exact H.apart h1
    · have := H.wk.lt; omega⟩

theorem blk_ne {w : World} {k k' : Nat} {a b : Array Value} {T T' : TypeId} {f f' : Nat × Nat} (h : w.heap[k]? = some (.cells a T f)) (h' : w.heap[k']? = some (.cells b T' f')) (hT : T ≠ T') : ¬ k = k' := fun e => by
  rw [e, h'] at h
  injection h with h
  injection h with _ h
  exact hT h.symm

set_option maxHeartbeats 8000000 in
set_option maxRecDepth 100000 in
theorem walkmoves_walk (A : Option Addr) (n cap : Nat) (xs : List A8) (a b : Int) (dn : Bool) (A2 : Option Addr) (n2 cap2 : Nat) (ys : List A8) (w : World) (hin : InA8 w A n cap xs) (ha : (Lit.int .u8 a).wf = true) (hb : (Lit.int .u8 b).wf = true) (hin2 : InA8 w A2 n2 cap2 ys) :
    Calls Try.prog 3 #[.slice A n cap, .int .u8 a, .int .u8 b, .bool dn, .slice A2 n2 cap2] w fun e w' => e = .returned (.bool true) ∧ Below w.heap.size w w' := by
  have HIN := hid_mk hin
  have ha' := hid_mk (wf_u8 ha)
  have hb' := hid_mk (wf_u8 hb)
  obtain ⟨hxl, hnc, hcap, hoks, hA⟩ := hin2
  obtain ⟨m, hmn, hm60, hmm, hmin⟩ := min_fact Try.prog n2 60 (by omega)
  have hm60' : m ≤ 60 := by omega
  have hmc : m ≤ cap2 := by omega
  have HOKS := hid_mk hoks
  have HA := hid_mk hA
  clear hoks hA hxl hmm hin ha hb
  go_enter Try.func3, Try.ntmps3
  go_wp2_with fail
  refine (wawake_any _).mono ?_
  rintro e w1 ⟨rfl, b1⟩
  have HIN1 := hid_mk (HIN.out.below b1)
  go_wp2_with fail
  refine (laid_any A n cap xs _ HIN1.out).mono ?_
  rintro e w2 ⟨p, u, L0, F0, rfl, T2, R2, hap, hL, hE, b2⟩
  have B2 := bthen b1 b2
  have HT2 := hid_mk (T2.base b1.size)
  have HR2 := hid_mk (R2.base b1.size)
  have HAP := hid_mk hap
  have HE := hid_mk hE
  clear T2 R2 hE hap b1 b2 HIN1 HIN
  go_wp2_with fail
  refine (near_any a b dn _ ha'.out hb'.out).mono ?_
  rintro e w3 ⟨rfl, b3⟩
  obtain ⟨r, hr⟩ : ∃ r, r = nearR a b dn := ⟨_, rfl⟩
  rw [← hr]
  obtain ⟨rf, rt, rd⟩ := r
  have b4 := bthen b3 (balloc (w := w3) (.cells #[.string rf, .string rt, .bool rd] 29))
  have Y4 := hid_mk (heap_alloc_new w3 (.cells #[.string rf, .string rt, .bool rd] 29))
  have HT4 := hid_mk (HT2.out.below b4)
  have HR4 := hid_mk (HR2.out.below b4)
  have B4 := bthen B2 b4
  obtain ⟨RB, hRB⟩ : ∃ RB, RB = w3.heap.size := ⟨_, rfl⟩
  rw [← hRB] at Y4
  have HRB := hid_mk hRB
  have hF0 : Hid (∀ j, F0 j → j < w2.heap.size) := hid_mk fun j hj => (HT2.out.foot j hj).2
  have hs3 := b3.size
  clear HT2 HR2 B2 b3 b4 hr hRB
  go_wp2_with fail
  rw [← HRB.out]
  refine (wnew_any p ⟨rf, rt, rd⟩ _).mono ?_
  rintro e w5 ⟨q, rfl, W5, hq, b5⟩
  have HW5 := Wt.fresh HT4.out b5 W5 hq
  have Y5 := below_block b5 (lt_of_block Y4.out) Y4.out
  have HR5 := HR4.out.below b5
  have B5 := bthen B4 b5
  have bz := balloc (w := w5) (.cells #[.string zM.e.key, .int .i64 zM.e.id, .bool zM.b] 36)
  have M6 := heap_alloc_new w5 (.cells #[.string zM.e.key, .int .i64 zM.e.id, .bool zM.b] 36)
  have Y6 := below_block bz (lt_of_block Y5) Y5
  obtain ⟨MB, hMB⟩ : ∃ MB, MB = w5.heap.size := ⟨_, rfl⟩
  rw [← hMB] at M6
  have P6 := hid_mk (And.intro Y6 M6)
  have W6 := hid_mk (HW5.below bz)
  have R6 := hid_mk (HR5.below bz)
  have B6 := bthen B5 bz
  have HNF0 : Hid (¬ F0 RB ∧ ¬ F0 MB) := hid_mk ⟨fun h9 => by have := hF0.out _ h9; have := HRB.out; omega, fun h9 => by have := hF0.out _ h9; have := b5.size; simp at this; omega⟩
  have hL0 : L0.length ≤ 60 + 0 := hL
  have HMB := hid_mk hMB
  have HMBw : Hid (w.heap.size ≤ MB) := hid_mk (by rw [hMB]; exact B5.size)
  clear HT4 HR4 Y4 B4 W5 hq b5 HW5 Y5 HR5 B5 bz M6 Y6 hMB hF0 hs3 hL
  go_wp2_with fail
  rw [← HMB.out]
  clear hmin
  go_loopw [12, 49] (fun o iv wr => ∃ (k : Nat) (L : List E) (F : Nat → Prop) (mk : Mk), iv = .int .i64 k ∧ k ≤ m ∧ L.length ≤ 60 + k ∧ Hid (Wt w.heap.size wr p L F q ⟨rf, rt, rd⟩ mk) ∧ Hid (Rw w.heap.size wr 34 2 o L.length (ecells L)) ∧ Hid (Apart o F) ∧ Hid (EntL L) ∧
    Hid (wr.heap[RB]? = some (.cells #[.string rf, .string rt, .bool rd] 29 (0, 0)) ∧ wr.heap[MB]? = some (.cells #[.string mk.e.key, .int .i64 mk.e.id, .bool mk.b] 36 (0, 0))) ∧ Hid (¬ F RB ∧ ¬ F MB) ∧ Below w.heap.size w wr) (fun _ iv _ => m - (intOf iv).toNat)
  case atStart => exact ⟨0, L0, F0, zM, rfl, Nat.zero_le _, hL0, W6, R6, HAP, HE, P6, HNF0, B6⟩
  case round =>
    clear HAP HE W6 R6 P6 HNF0 B6 hL0
    obtain ⟨k, L, F, mk, rfl, hk, hl, HW, R, HAP, HE, P, HNF, hb⟩ := hrel
    obtain ⟨Ao, co, rfl, hlc, hco, _, _⟩ := R.out.shape
    by_cases hlt : k < m
    · obtain ⟨bb, off, rfl, hbw, hcs⟩ := HA.out (by omega)
      obtain ⟨c0, c1, c2⟩ := hcs k (by omega)
      obtain ⟨x, hx⟩ : ∃ x, x = a8 ys k := ⟨_, rfl⟩
      rw [← hx] at c0 c1 c2
      have c0' := keep_cell hb c0
      have c1' := keep_cell hb c1
      have c2' := keep_cell hb c2
      have HO := hid_mk (HOKS.out k (by omega))
      rw [← hx] at HO
      have HSR := hid_mk HW.out.tree.srt
      have hkind := HO.out.1
      have htm : x.kind.tmod 3 = x.kind % 3 := Int.tmod_eq_emod_of_nonneg hkind.1
      have hm0 : 0 ≤ x.kind % 3 := Int.emod_nonneg _ (by omega)
      have hm1 : x.kind % 3 < 3 := Int.emod_lt_of_pos _ (by omega)
      have Y := heap_alloc_new wr (.cells #[.int .u8 x.kind, .int .u8 x.key, .int .u8 x.id] 38)
      clear hcs c0 c1 c2 hx
      by_cases hc0 : x.kind.tmod 3 = 0
      · clear htm hm0 hm1
        have ba := balloc (w := wr) (.cells #[.int .u8 x.kind, .int .u8 x.key, .int .u8 x.id] 38)
        have W1 := hid_mk (HW.out.below ba)
        have R1 := hid_mk (R.out.below ba)
        have P1 := hid_mk (And.intro (below_block ba (lt_of_block P.out.1) P.out.1) (below_block ba (lt_of_block P.out.2) P.out.2))
        have hb1 := hb.trans (ba.mono hb.size)
        have HQB : Hid (¬ RB = q ∧ ¬ MB = q) := hid_mk ⟨blk_ne P.out.1 HW.out.wk (by decide), blk_ne P.out.2 HW.out.wk (by decide)⟩
        have HRO : Hid (Apart (.slice Ao L.length co) fun j => j = q) := hid_mk fun j hj e9 => R.out.ne (HW.out.wk) (by decide) (e9 ▸ hj)
        have HRM : Hid (¬ (Value.slice Ao L.length co).ownBlock = some MB) := hid_mk fun e9 => R.out.ne P.out.2 (by decide) e9
        clear ba HW R P hb Y hkind
        go_wp2_with fail
        refine (wnext_any w.heap.size p q L F ⟨rf, rt, rd⟩ mk _ W1.out).mono ?_
        rintro e w4 ⟨rfl, W4, m4⟩
        rw [next_eq HSR.out HE.out.low] at W4 ⊢
        obtain ⟨z, hz⟩ : ∃ z, z = lawN L ⟨rf, rt, rd⟩ mk := ⟨_, rfl⟩
        rw [← hz] at W4 ⊢
        have HZ := hid_mk hz
        have bz : Below w4.heap.size w4 (w4.alloc (.cells #[.string z.1.key, .int .i64 z.1.id] 34)) := balloc _
        have R4 := hid_mk ((m4.rw_ R1.out HRO.out).below bz)
        have Z4 := below_block bz (lt_of_block (m4.at_ P1.out.1 HQB.out.1)) (m4.at_ P1.out.1 HQB.out.1)
        have M4 := below_block bz (lt_of_block (m4.at_ P1.out.2 HQB.out.2)) (m4.at_ P1.out.2 HQB.out.2)
        have HP4 := hid_mk (And.intro Z4 M4)
        have Y4 := hid_mk (heap_alloc_new w4 (.cells #[.string z.1.key, .int .i64 z.1.id] 34))
        have hb4 := (hb1.trans ((W1.out.moved m4).mono (Nat.le_refl _)))
        have B4 := hb4.trans (bz.mono hb4.size)
        have HW4 := hid_mk (Wt.below W4 bz)
        have m0 : (w4.alloc (.cells #[.string z.1.key, .int .i64 z.1.id] 34)).cell? ⟨MB, 0, none⟩ = some (.string mk.e.key) := (cell_of_row _ _ 0 _ _ _ M4).trans rfl
        have m1 : (w4.alloc (.cells #[.string z.1.key, .int .i64 z.1.id] 34)).cell? ⟨MB, 1, none⟩ = some (.int .i64 mk.e.id) := (cell_of_row _ _ 1 _ _ _ M4).trans rfl
        have m2 : (w4.alloc (.cells #[.string z.1.key, .int .i64 z.1.id] 34)).cell? ⟨MB, 2, none⟩ = some (.bool mk.b) := (cell_of_row _ _ 2 _ _ _ M4).trans rfl
        have r0 : (w4.alloc (.cells #[.string z.1.key, .int .i64 z.1.id] 34)).cell? ⟨RB, 0, none⟩ = some (.string rf) := (cell_of_row _ _ 0 _ _ _ Z4).trans rfl
        have r1 : (w4.alloc (.cells #[.string z.1.key, .int .i64 z.1.id] 34)).cell? ⟨RB, 1, none⟩ = some (.string rt) := (cell_of_row _ _ 1 _ _ _ Z4).trans rfl
        have r2 : (w4.alloc (.cells #[.string z.1.key, .int .i64 z.1.id] 34)).cell? ⟨RB, 2, none⟩ = some (.bool rd) := (cell_of_row _ _ 2 _ _ _ Z4).trans rfl
        clear hz W4 m4 bz M4 Z4 W1 R1 P1 hb1 hb4
        go_wp2_with fail
        refine (lnext_any w.heap.size L _ ⟨rf, rt, rd⟩ mk _ R4.out (by omega)).mono ?_
        rintro e w5 ⟨rfl, b5⟩
        rw [← HZ.out]
        have y5 := below_block b5 (by simp) Y4.out
        have hb5 := B4.trans (b5.mono B4.size)
        have bz : Below w5.heap.size w5 (w5.alloc (.cells #[.string z.1.key, .int .i64 z.1.id] 34)) := balloc _
        have y0 := keep_cell bz ((cell_of_row w5 _ 0 _ _ _ y5).trans rfl : w5.cell? ⟨w4.heap.size, 0, none⟩ = some (.string z.1.key))
        have y1 := keep_cell bz ((cell_of_row w5 _ 1 _ _ _ y5).trans rfl : w5.cell? ⟨w4.heap.size, 1, none⟩ = some (.int .i64 z.1.id))
        have hb6 := hb5.trans (bz.mono hb5.size)
        have bb := bthen b5 bz
        have HW6 := hid_mk (HW4.out.below bb)
        have R6 := hid_mk (R4.out.below bb)
        have P6 := hid_mk (And.intro (below_block bb (lt_of_block HP4.out.1) HP4.out.1) (below_block bb (lt_of_block HP4.out.2) HP4.out.2))
        have Y6 := heap_alloc_new w5 (.cells #[.string z.1.key, .int .i64 z.1.id] 34)
        have v0 : (w5.alloc (.cells #[.string z.1.key, .int .i64 z.1.id] 34)).cell? ⟨w5.heap.size, 0, none⟩ = some (.string z.1.key) := (cell_of_row _ _ 0 _ _ _ Y6).trans rfl
        have v1 : (w5.alloc (.cells #[.string z.1.key, .int .i64 z.1.id] 34)).cell? ⟨w5.heap.size, 1, none⟩ = some (.int .i64 z.1.id) := (cell_of_row _ _ 1 _ _ _ Y6).trans rfl
        obtain ⟨w6, hw6⟩ : ∃ w6, w6 = w5.alloc (.cells #[.string z.1.key, .int .i64 z.1.id] 34) := ⟨_, rfl⟩
        rw [← hw6] at hb6 HW6 R6 P6
        have HW6' := hid_mk hw6
        clear y5 b5 m0 m1 m2 r0 r1 r2 bz hb5 bb HW4 R4 HP4 Y4 B4 Y6 hw6
        obtain ⟨ze, zb⟩ := z
        simp only at y0 y1 v0 v1 HW6 HW6' ⊢
        cases zb with
        | false =>
          have HW7 : Hid (Wt w.heap.size w6 p L F q ⟨rf, rt, rd⟩ mk) := HW6
          have m0 : ∀ y : BW w6, y.w.cell? ⟨MB, 0, none⟩ = some (.string mk.e.key) := fun y => y.cell ((cell_of_row _ _ 0 _ _ _ P6.out.2).trans rfl)
          have m1 : ∀ y : BW w6, y.w.cell? ⟨MB, 1, none⟩ = some (.int .i64 mk.e.id) := fun y => y.cell ((cell_of_row _ _ 1 _ _ _ P6.out.2).trans rfl)
          have m2 : ∀ y : BW w6, y.w.cell? ⟨MB, 2, none⟩ = some (.bool mk.b) := fun y => y.cell ((cell_of_row _ _ 2 _ _ _ P6.out.2).trans rfl)
          have HMK : Hid (∀ y : BW w6, Calls Try.prog 19 #[.pointer (some ⟨q, 0, none⟩)] y.w fun e w'' => e = .returned (.agg #[.string mk.e.key, .int .i64 mk.e.id, .bool mk.b]) ∧ ∃ y' : BW w6, w'' = y'.w) := hid_mk fun y => (mark_any q p ⟨rf, rt, rd⟩ mk y.w (HW7.out.wk.below y.h)).mono (by rintro e w' ⟨rfl, b⟩; exact ⟨rfl, y.step b⟩)
          clear HW6
          go_wp2_with fail
          rw [← HW6'.out]
          refine wp_region_bw w6 (by kernel_rfl) (by kernel_rfl) (Below.refl _ _) ?_
          repeat (go_big_quiet_step ((first | exact HMK.out _)))
          refine wpQuiet_nil ?_
          rintro _ ⟨y, rfl⟩
          have W9 := hid_mk (HW7.out.below y.h)
          have R9 := hid_mk (R6.out.below y.h)
          have P9 := hid_mk (And.intro (below_block y.h (lt_of_block P6.out.1) P6.out.1) (below_block y.h (lt_of_block P6.out.2) P6.out.2))
          have hb9 := hb6.trans (y.h.mono hb6.size)
          clear HW7 R6 P6 hb6 m0 m1 m2 HMK
          go_wp2_with fail
          refine ⟨⟨k + 1, L, F, mk, ?_, by omega, by omega, W9, R9, HAP, HE, P9, HNF, hb9⟩, ?_⟩
          · go_num
          · simp [intOf]
            omega
        | true =>
          have HW7 : Wt w.heap.size w6 p L F q ⟨rf, rt, rd⟩ ⟨ze, true⟩ := HW6.out
          have hMR : ¬ RB = MB := blk_ne P6.out.1 P6.out.2 (by decide)
          have m7 : Mv (fun j => j = MB) (fun j => j = MB) w6 (((w6.setCell ⟨MB, 0, none⟩ (.string ze.key)).setCell ⟨MB, 1, none⟩ (.int .i64 ze.id)).setCell ⟨MB, 2, none⟩ (.bool true)) := ((Mv.setCell (F := fun j => j = MB) (a := ⟨MB, 0, none⟩) _ rfl).trans (Mv.setCell (F := fun j => j = MB) (a := ⟨MB, 1, none⟩) _ rfl)).trans (Mv.setCell (F := fun j => j = MB) (a := ⟨MB, 2, none⟩) _ rfl)
          have W7 := hid_mk (HW7.stays m7 (fun j hj e9 => HNF.out.2 (e9 ▸ hj)) (fun e9 => HQB.out.2 e9.symm))
          have R7 := hid_mk (m7.rw_ R6.out (fun j hj e9 => HRM.out (e9 ▸ hj)))
          have Z7 := m7.at_ P6.out.1 hMR
          have M7 := block_setCell (block_setCell (block_setCell P6.out.2 0 (.string ze.key) (by simp)) 1 (.int .i64 ze.id) (by simp)) 2 (.bool true) (by simp)
          have P7 := hid_mk (And.intro Z7 M7)
          have hb7 := hb6.trans (m7.below (B := w.heap.size) (fun j hj => by subst hj; exact Nat.le_of_lt_succ (Nat.lt_succ_of_le HMBw.out)) hb6.size)
          have f0 : (w5.alloc (.cells #[.string ze.key, .int .i64 ze.id] 34)).frozen? ⟨MB, 0, none⟩ = false := by rw [← HW6'.out]; simp [World.frozen?, P6.out.2]
          have f1 : (w5.alloc (.cells #[.string ze.key, .int .i64 ze.id] 34)).frozen? ⟨MB, 1, none⟩ = false := by rw [← HW6'.out]; simp [World.frozen?, P6.out.2]
          have f2 : (w5.alloc (.cells #[.string ze.key, .int .i64 ze.id] 34)).frozen? ⟨MB, 2, none⟩ = false := by rw [← HW6'.out]; simp [World.frozen?, P6.out.2]
          have g0 : (w5.alloc (.cells #[.string ze.key, .int .i64 ze.id] 34)).cell? ⟨MB, 0, none⟩ = some (.string mk.e.key) := by rw [← HW6'.out]; exact (cell_of_row _ _ 0 _ _ _ P6.out.2).trans rfl
          have g1 : (w5.alloc (.cells #[.string ze.key, .int .i64 ze.id] 34)).cell? ⟨MB, 1, none⟩ = some (.int .i64 mk.e.id) := by rw [← HW6'.out]; exact (cell_of_row _ _ 1 _ _ _ P6.out.2).trans rfl
          have g2 : (w5.alloc (.cells #[.string ze.key, .int .i64 ze.id] 34)).cell? ⟨MB, 2, none⟩ = some (.bool mk.b) := by rw [← HW6'.out]; exact (cell_of_row _ _ 2 _ _ _ P6.out.2).trans rfl
          clear HW6 HW7 m7 Z7 M7 R6 P6 hb6 hMR
          go_wp2_with fail
          rw [← HW6'.out]
          obtain ⟨w7, hw7⟩ : ∃ w7, w7 = ((w6.setCell ⟨MB, 0, none⟩ (.string ze.key)).setCell ⟨MB, 1, none⟩ (.int .i64 ze.id)).setCell ⟨MB, 2, none⟩ (.bool true) := ⟨_, rfl⟩
          rw [← hw7] at W7 R7 P7 hb7 ⊢
          have m0 : ∀ y : BW w7, y.w.cell? ⟨MB, 0, none⟩ = some (.string ze.key) := fun y => y.cell ((cell_of_row _ _ 0 _ _ _ P7.out.2).trans rfl)
          have m1 : ∀ y : BW w7, y.w.cell? ⟨MB, 1, none⟩ = some (.int .i64 ze.id) := fun y => y.cell ((cell_of_row _ _ 1 _ _ _ P7.out.2).trans rfl)
          have m2 : ∀ y : BW w7, y.w.cell? ⟨MB, 2, none⟩ = some (.bool true) := fun y => y.cell ((cell_of_row _ _ 2 _ _ _ P7.out.2).trans rfl)
          have HMK : Hid (∀ y : BW w7, Calls Try.prog 19 #[.pointer (some ⟨q, 0, none⟩)] y.w fun e w'' => e = .returned (.agg #[.string ze.key, .int .i64 ze.id, .bool true]) ∧ ∃ y' : BW w7, w'' = y'.w) := hid_mk fun y => (mark_any q p ⟨rf, rt, rd⟩ ⟨ze, true⟩ y.w (W7.out.wk.below y.h)).mono (by rintro e w' ⟨rfl, b⟩; exact ⟨rfl, y.step b⟩)
          clear hw7 f0 f1 f2 g0 g1 g2 y0 y1 v0 v1
          refine wp_region_bw w7 (by kernel_rfl) (by kernel_rfl) (Below.refl _ _) ?_
          repeat (go_big_quiet_step ((first | exact HMK.out _)))
          refine wpQuiet_nil ?_
          rintro _ ⟨y, rfl⟩
          have W9 := hid_mk (W7.out.below y.h)
          have R9 := hid_mk (R7.out.below y.h)
          have P9 : Hid (y.w.heap[RB]? = some (.cells #[.string rf, .string rt, .bool rd] 29 (0, 0)) ∧ y.w.heap[MB]? = some (.cells #[.string ze.key, .int .i64 ze.id, .bool true] 36 (0, 0))) := hid_mk (And.intro (below_block y.h (lt_of_block P7.out.1) P7.out.1) (below_block y.h (lt_of_block P7.out.2) P7.out.2))
          have hb9 := hb7.trans (y.h.mono hb7.size)
          clear W7 R7 P7 hb7 m0 m1 m2 HMK
          go_wp2_with fail
          refine ⟨⟨k + 1, L, F, ⟨ze, true⟩, ?_, by omega, by omega, W9, R9, HAP, HE, P9, HNF, hb9⟩, ?_⟩
          · go_num
          · simp [intOf]
            omega
      · by_cases hc1 : x.kind.tmod 3 = 1
        · have bd : Below wr.heap.size wr (wr.alloc (.cells #[.int .u8 x.kind, .int .u8 x.key, .int .u8 x.id] 38)).drew := pw_below (n := 1) (balloc _)
          have y0 : (wr.alloc (.cells #[.int .u8 x.kind, .int .u8 x.key, .int .u8 x.id] 38)).drew.cell? ⟨wr.heap.size, 0, none⟩ = some (.int .u8 x.kind) := (cell_of_row _ _ 0 _ _ _ Y).trans rfl
          have y1 : (wr.alloc (.cells #[.int .u8 x.kind, .int .u8 x.key, .int .u8 x.id] 38)).drew.cell? ⟨wr.heap.size, 1, none⟩ = some (.int .u8 x.key) := (cell_of_row _ _ 1 _ _ _ Y).trans rfl
          have y2 : (wr.alloc (.cells #[.int .u8 x.kind, .int .u8 x.key, .int .u8 x.id] 38)).drew.cell? ⟨wr.heap.size, 2, none⟩ = some (.int .u8 x.id) := (cell_of_row _ _ 2 _ _ _ Y).trans rfl
          have WD := hid_mk (HW.out.below bd)
          have RD := hid_mk (R.out.below bd)
          have PD := hid_mk (And.intro (below_block bd (lt_of_block P.out.1) P.out.1) (below_block bd (lt_of_block P.out.2) P.out.2))
          have hbD := hb.trans (bd.mono hb.size)
          have hsz : wr.heap.size < (wr.alloc (.cells #[.int .u8 x.kind, .int .u8 x.key, .int .u8 x.id] 38)).drew.heap.size := by show _ < (wr.alloc _).heap.size; simp
          have hws : w.heap.size ≤ wr.heap.size := hb.size
          have HSZ := hid_mk (And.intro hsz hws)
          have HNY : Hid (∀ j, F j → j < wr.heap.size) := hid_mk fun j hj => (HW.out.tree.foot j hj).2
          obtain ⟨qe, hqe⟩ : ∃ q, q = x.ent := ⟨_, rfl⟩
          have HQ := hid_mk hqe
          clear bd Y P R HW hb HAP hsz hws hqe htm hm0 hm1 hkind
          go_wp2_with fail
          go_region_held3 (fun w' => w'.cell? ⟨wr.heap.size, 0, none⟩ = some (.int .u8 x.kind) ∧ w'.cell? ⟨wr.heap.size, 1, none⟩ = some (.int .u8 x.key) ∧ w'.cell? ⟨wr.heap.size, 2, none⟩ = some (.int .u8 x.id))
            ((first | go_keep | exact ⟨J0, J1, J2⟩ | exact ⟨K0, K1, K2⟩))
            ((first
              | (go_at_call 14; refine (entry_any x _ HO.out).mono ?_; rintro e w4 ⟨rfl, b4⟩; rw [← HQ.out]; have hs4 : wr.heap.size < w4.heap.size := Nat.lt_of_lt_of_le HSZ.out.1 b4.size; have W4 := hid_mk (WD.out.below b4); have R4 := hid_mk (RD.out.below b4); have hb4 := hbD.trans (b4.mono hbD.size); have P4 := hid_mk (And.intro (below_block b4 (lt_of_block PD.out.1) PD.out.1) (below_block b4 (lt_of_block PD.out.2) PD.out.2)); have K0 := keep_cell b4 y0; have K1 := keep_cell b4 y1; have K2 := keep_cell b4 y2)
              | (go_at_call 13; refine (with_any w.heap.size L _ qe true _ R4.out HSR.out (by omega)).mono ?_; rintro e w5 ⟨u5, rfl, R5, b5⟩; have J0 := keep_cell b5 K0; have J1 := keep_cell b5 K1; have J2 := keep_cell b5 K2)))
          have HR5 : Hid (Rw w.heap.size w5 34 2 u5 (add qe L).length (ecells (add qe L))) := hid_mk (Rw.base (show Rw w4.heap.size w5 34 2 u5 (add qe L).length (ecells (add qe L)) from R5) (by have := HSZ.out; omega))
          have hu5 : ∀ j, u5.ownBlock = some j → wr.heap.size < j := fun j hj => by have h9 := (Rw.lt (show Rw w4.heap.size w5 34 2 u5 (add qe L).length (ecells (add qe L)) from R5) j hj).1; omega
          have HAP5 : Hid (Apart u5 F) := hid_mk fun j hj hf => by have := hu5 j hj; have := HNY.out j hf; omega
          have W5 := hid_mk (W4.out.below b5)
          have P5 := hid_mk (And.intro (below_block b5 (lt_of_block P4.out.1) P4.out.1) (below_block b5 (lt_of_block P4.out.2) P4.out.2))
          have hb5 := hb4.trans (b5.mono hb4.size)
          have hs5 : wr.heap.size < w5.heap.size := Nat.lt_of_lt_of_le hs4 b5.size
          clear K0 K1 K2 W4 R4 WD RD hbD hb4 y0 y1 y2 b4 b5 R5 hu5 P4 PD
          go_wp2_with fail
          refine (entry_any x _ HO.out).mono ?_
          rintro e w6 ⟨rfl, b6⟩
          rw [← HQ.out]
          have W6 := hid_mk (W5.out.below b6)
          have R6 := hid_mk (HR5.out.below b6)
          have P6 := hid_mk (And.intro (below_block b6 (lt_of_block P5.out.1) P5.out.1) (below_block b6 (lt_of_block P5.out.2) P5.out.2))
          have hb6 := hb5.trans (b6.mono hb5.size)
          clear W5 HR5 hb5 J0 J1 J2 P5
          go_wp2_with fail
          refine (tadd_any w.heap.size p L F qe _ W6.out.tree (by omega)).mono ?_
          rintro e w7 ⟨rfl, F', T7, m7⟩
          have W7 := hid_mk (W6.out.turned T7 m7)
          have R7 := hid_mk (m7.rw_ R6.out HAP5.out)
          have AP7 := hid_mk (HAP5.out.moved m7 fun j hj => (R6.out.lt j hj).2)
          have P7 := hid_mk (And.intro (m7.at_ P6.out.1 HNF.out.1) (m7.at_ P6.out.2 HNF.out.2))
          have NF7 : Hid (¬ F' RB ∧ ¬ F' MB) := hid_mk ⟨fun h9 => by
            rcases m7.new _ h9 with h8 | h8
            · exact HNF.out.1 h8
            · have := lt_of_block P6.out.1; omega, fun h9 => by
            rcases m7.new _ h9 with h8 | h8
            · exact HNF.out.2 h8
            · have := lt_of_block P6.out.2; omega⟩
          have hb7 := hb6.trans ((W6.out.tree.moved m7).mono (Nat.le_refl _))
          have haL := add_le (e := qe) HSR.out
          have HE7 : Hid (EntL (add qe L)) := hid_mk (by rw [HQ.out]; exact HE.out.add HO.out)
          clear m7 T7 W6 R6 HAP5 b6 hb6 P6
          go_wp2_with fail
          refine ⟨⟨k + 1, add qe L, F', mk, ?_, by omega, by omega, W7, R7, AP7, HE7, P7, NF7, hb7⟩, ?_⟩
          · go_num
          · simp [intOf]
            omega
        · have hc2 : x.kind.tmod 3 = 2 := by omega
          clear hc0 hc1
          have bd : Below wr.heap.size wr (wr.alloc (.cells #[.int .u8 x.kind, .int .u8 x.key, .int .u8 x.id] 38)).drew := pw_below (n := 1) (balloc _)
          have y0 : (wr.alloc (.cells #[.int .u8 x.kind, .int .u8 x.key, .int .u8 x.id] 38)).drew.cell? ⟨wr.heap.size, 0, none⟩ = some (.int .u8 x.kind) := (cell_of_row _ _ 0 _ _ _ Y).trans rfl
          have y1 : (wr.alloc (.cells #[.int .u8 x.kind, .int .u8 x.key, .int .u8 x.id] 38)).drew.cell? ⟨wr.heap.size, 1, none⟩ = some (.int .u8 x.key) := (cell_of_row _ _ 1 _ _ _ Y).trans rfl
          have y2 : (wr.alloc (.cells #[.int .u8 x.kind, .int .u8 x.key, .int .u8 x.id] 38)).drew.cell? ⟨wr.heap.size, 2, none⟩ = some (.int .u8 x.id) := (cell_of_row _ _ 2 _ _ _ Y).trans rfl
          have WD := hid_mk (HW.out.below bd)
          have RD := hid_mk (R.out.below bd)
          have PD := hid_mk (And.intro (below_block bd (lt_of_block P.out.1) P.out.1) (below_block bd (lt_of_block P.out.2) P.out.2))
          have hbD := hb.trans (bd.mono hb.size)
          have hsz : wr.heap.size < (wr.alloc (.cells #[.int .u8 x.kind, .int .u8 x.key, .int .u8 x.id] 38)).drew.heap.size := by show _ < (wr.alloc _).heap.size; simp
          have hws : w.heap.size ≤ wr.heap.size := hb.size
          have HSZ := hid_mk (And.intro hsz hws)
          have HNY : Hid (∀ j, F j → j < wr.heap.size) := hid_mk fun j hj => (HW.out.tree.foot j hj).2
          obtain ⟨qe, hqe⟩ : ∃ q, q = x.ent := ⟨_, rfl⟩
          have HQ := hid_mk hqe
          clear bd Y P R HW hb HAP hsz hws hqe htm hm0 hm1 hkind
          go_wp2_with fail
          go_region_held3 (fun w' => w'.cell? ⟨wr.heap.size, 0, none⟩ = some (.int .u8 x.kind) ∧ w'.cell? ⟨wr.heap.size, 1, none⟩ = some (.int .u8 x.key) ∧ w'.cell? ⟨wr.heap.size, 2, none⟩ = some (.int .u8 x.id))
            ((first | go_keep | exact ⟨J0, J1, J2⟩ | exact ⟨K0, K1, K2⟩))
            ((first
              | (go_at_call 14; refine (entry_any x _ HO.out).mono ?_; rintro e w4 ⟨rfl, b4⟩; rw [← HQ.out]; have hs4 : wr.heap.size < w4.heap.size := Nat.lt_of_lt_of_le HSZ.out.1 b4.size; have W4 := hid_mk (WD.out.below b4); have R4 := hid_mk (RD.out.below b4); have hb4 := hbD.trans (b4.mono hbD.size); have P4 := hid_mk (And.intro (below_block b4 (lt_of_block PD.out.1) PD.out.1) (below_block b4 (lt_of_block PD.out.2) PD.out.2)); have K0 := keep_cell b4 y0; have K1 := keep_cell b4 y1; have K2 := keep_cell b4 y2)
              | (go_at_call 13; refine (with_any w.heap.size L _ qe false _ R4.out HSR.out (by omega)).mono ?_; rintro e w5 ⟨u5, rfl, R5, b5⟩; have J0 := keep_cell b5 K0; have J1 := keep_cell b5 K1; have J2 := keep_cell b5 K2)))
          have HR5 : Hid (Rw w.heap.size w5 34 2 u5 (del qe L).length (ecells (del qe L))) := hid_mk (Rw.base (show Rw w4.heap.size w5 34 2 u5 (del qe L).length (ecells (del qe L)) from R5) (by have := HSZ.out; omega))
          have hu5 : ∀ j, u5.ownBlock = some j → wr.heap.size < j := fun j hj => by have h9 := (Rw.lt (show Rw w4.heap.size w5 34 2 u5 (del qe L).length (ecells (del qe L)) from R5) j hj).1; omega
          have HAP5 : Hid (Apart u5 F) := hid_mk fun j hj hf => by have := hu5 j hj; have := HNY.out j hf; omega
          have W5 := hid_mk (W4.out.below b5)
          have P5 := hid_mk (And.intro (below_block b5 (lt_of_block P4.out.1) P4.out.1) (below_block b5 (lt_of_block P4.out.2) P4.out.2))
          have hb5 := hb4.trans (b5.mono hb4.size)
          have hs5 : wr.heap.size < w5.heap.size := Nat.lt_of_lt_of_le hs4 b5.size
          clear K0 K1 K2 W4 R4 WD RD hbD hb4 y0 y1 y2 b4 b5 R5 hu5 P4 PD
          go_wp2_with fail
          refine (entry_any x _ HO.out).mono ?_
          rintro e w6 ⟨rfl, b6⟩
          rw [← HQ.out]
          have W6 := hid_mk (W5.out.below b6)
          have R6 := hid_mk (HR5.out.below b6)
          have P6 := hid_mk (And.intro (below_block b6 (lt_of_block P5.out.1) P5.out.1) (below_block b6 (lt_of_block P5.out.2) P5.out.2))
          have hb6 := hb5.trans (b6.mono hb5.size)
          clear W5 HR5 hb5 J0 J1 J2 P5
          go_wp2_with fail
          refine (tdel_any w.heap.size p L F qe _ W6.out.tree (by omega)).mono ?_
          rintro e w7 ⟨rfl, F', T7, m7⟩
          have W7 := hid_mk (W6.out.turned T7 m7)
          have R7 := hid_mk (m7.rw_ R6.out HAP5.out)
          have AP7 := hid_mk (HAP5.out.moved m7 fun j hj => (R6.out.lt j hj).2)
          have P7 := hid_mk (And.intro (m7.at_ P6.out.1 HNF.out.1) (m7.at_ P6.out.2 HNF.out.2))
          have NF7 : Hid (¬ F' RB ∧ ¬ F' MB) := hid_mk ⟨fun h9 => by
            rcases m7.new _ h9 with h8 | h8
            · exact HNF.out.1 h8
            · have := lt_of_block P6.out.1; omega, fun h9 => by
            rcases m7.new _ h9 with h8 | h8
            · exact HNF.out.2 h8
            · have := lt_of_block P6.out.2; omega⟩
          have hb7 := hb6.trans ((W6.out.tree.moved m7).mono (Nat.le_refl _))
          have haL := del_le (e := qe) HSR.out
          have HE7 : Hid (EntL (del qe L)) := hid_mk (HE.out.del qe)
          clear m7 T7 W6 R6 HAP5 b6 hb6 P6
          go_wp2_with fail
          refine ⟨⟨k + 1, del qe L, F', mk, ?_, by omega, by omega, W7, R7, AP7, HE7, P7, NF7, hb7⟩, ?_⟩
          · go_num
          · simp [intOf]
            omega
    · obtain rfl : k = m := by omega
      go_wp2_with fail
      go_ret
      exact ⟨rfl, hb⟩

end Go.Proofs.Ytanomhjekdefeaa
