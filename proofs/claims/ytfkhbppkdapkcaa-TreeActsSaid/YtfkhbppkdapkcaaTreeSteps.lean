/- The walk over the law TreeSteps. -/
import Derived.Test.YtfkhbppkdapkcaaTreeNodes
import Derived.Test.YtfkhbppkdapkcaaTreeRaw
namespace Go.Proofs.Ytfkhbppkdapkcaa
open Go.RowKit
set_option linter.unusedVariables false
attribute [local go_sem ↓] Go.wp_at_zero Go.wp_at_succ

theorem withL_false (e : E) (l : List E) : withL false e l = del e l := rfl
theorem above_take (x : E) (L : List E) (k : Nat) (hk : k < L.length) : above x (L.take (k + 1)) = above x (L.take k) ++ (if lt x (ge L k) then [ge L k] else []) := by
  rw [ge_take L k hk, above_append]
  congr 1
  unfold above
  by_cases h : lt x (ge L k) <;> simp [h]
theorem below_take (x : E) (L : List E) (k : Nat) (hk : k < L.length) : below x (L.take (k + 1)) = below x (L.take k) ++ (if lt (ge L k) x then [ge L k] else []) := by
  rw [ge_take L k hk, below_append]
  congr 1
  unfold below
  by_cases h : lt (ge L k) x <;> simp [h]
theorem hd_more (a : List E) (y : E) : hd (a ++ [y]) = if (hd a).2 then hd a else (y, true) := by
  rcases a with _ | ⟨x, r⟩ <;> rfl
theorem tl_more (a : List E) (y : E) : tl (a ++ [y]) = (y, true) := by
  unfold tl; rw [List.getLast?_append]; rfl

theorem tree_cell {B p b : Nat} {L : List E} {F : Nat → Prop} {w : World} (H : Tree B w p L F) (hb : ¬ F b) (o : Nat) (u : Value) : Tree B (w.setCell ⟨b, o, none⟩ u) p L F :=
  H.other (Mv.setCell (F := (· = b)) (w := w) (a := ⟨b, o, none⟩) u rfl) fun k hk e => hb (e ▸ hk)

set_option maxHeartbeats 8000000 in
set_option maxRecDepth 100000 in
theorem steps_walk (A : Option Addr) (n cap : Nat) (xs : List A8) (ea : A8) (raw : E) (ow : Bool) (w : World) (hin : InA8 w A n cap xs) (hea : ea.ok) :
    Calls Try.prog 6 #[.slice A n cap, .agg #[.int .u8 ea.kind, .int .u8 ea.key, .int .u8 ea.id], .agg #[.string raw.key, .int .i64 raw.id], .bool ow] w fun e w' => e = .returned (.bool true) ∧ Below w.heap.size w w' := by
  obtain ⟨hxl, hnc, hcap, hoks, hA⟩ := hin
  obtain ⟨m, hmn, hm100, _, hmin⟩ := min_fact Try.prog n 120 (by omega)
  have hmc : m ≤ cap := by omega
  have HOKS := hid_mk hoks
  have HA := hid_mk hA
  have HEA := hid_mk hea
  clear hoks hA hxl hea
  go_enter Try.func6, Try.ntmps6
  go_wp2_with fail
  obtain ⟨w0, hw0⟩ : ∃ w0, w0 = (w.alloc (.cells #[.int .u8 ea.kind, .int .u8 ea.key, .int .u8 ea.id] 30)).alloc (.cells #[.string raw.key, .int .i64 raw.id] 28) := ⟨_, rfl⟩
  rw [← hw0]
  have B0 : Below w.heap.size w w0 := by rw [hw0]; exact bthen (balloc _) (balloc _)
  have hs0 : w.heap.size + 1 < w0.heap.size := by rw [hw0]; simp
  have XA : w0.heap[w.heap.size]? = some (.cells #[.int .u8 ea.kind, .int .u8 ea.key, .int .u8 ea.id] 30 (0, 0)) := by
    rw [hw0]; exact (heap_alloc_old (w.alloc _) _ (by simp)).trans (heap_alloc_new w _)
  have XR : w0.heap[w.heap.size + 1]? = some (.cells #[.string raw.key, .int .i64 raw.id] 28 (0, 0)) := by
    rw [hw0]
    have h9 := heap_alloc_new (w.alloc (.cells #[.int .u8 ea.kind, .int .u8 ea.key, .int .u8 ea.id] 30)) (.cells #[.string raw.key, .int .i64 raw.id] 28)
    rw [World.size_alloc] at h9
    exact h9
  clear hw0
  refine (awake_any _).mono ?_
  rintro r w1 ⟨rfl, b1⟩
  have XA1 := below_block b1 (by omega) XA
  have XR1 := below_block b1 (by omega) XR
  have B1 := B0.trans (b1.mono (by omega))
  have hs1 : w.heap.size + 1 < w1.heap.size := by have := b1.size; omega
  clear b1 XA XR B0 hs0
  go_wp2_with fail
  refine (new_any _).mono ?_
  rintro r w2 ⟨p, F0, rfl, T2, b2⟩
  have XA2 := hid_mk (below_block b2 (by omega) XA1)
  have XR2 := hid_mk (below_block b2 (by omega) XR1)
  have B2 := B1.trans (b2.mono (by omega))
  have HT2 := hid_mk T2
  clear b2 XA1 XR1 B1 T2
  go_wp2_with fail
  clear hmin
  go_loopw [10, 36] (fun o iv wr => ∃ (k : Nat) (L : List E) (F : Nat → Prop), iv = .int .i64 k ∧ k ≤ m ∧ L.length ≤ k ∧ Hid (Tree w1.heap.size wr p L F) ∧ Hid (Rw w1.heap.size wr 28 2 o L.length (ecells L)) ∧ Hid (Apart o F) ∧ Below w.heap.size w wr ∧
    Hid (wr.heap[w.heap.size]? = some (.cells #[.int .u8 ea.kind, .int .u8 ea.key, .int .u8 ea.id] 30 (0, 0))) ∧ Hid (wr.heap[w.heap.size + 1]? = some (.cells #[.string raw.key, .int .i64 raw.id] 28 (0, 0)))) (fun _ iv _ => m - (intOf iv).toNat)
  case atStart => exact ⟨0, [], F0, rfl, Nat.zero_le _, Nat.le_refl _, HT2, Rw.nil _ _ _ _, fun k h => by simp [Value.ownBlock] at h, B2, XA2, XR2⟩
  case round =>
    clear XA2 XR2 B2 HT2
    obtain ⟨k, L, F, rfl, hk, hl, T, R, HAP, hb, XA, XR⟩ := hrel
    have hX := lt_of_block XR.out
    obtain ⟨Ao, co, rfl, hlc, hco, _, _⟩ := R.out.shape
    by_cases hlt : k < m
    · obtain ⟨b, off, rfl, hbw, hcs⟩ := HA.out (by omega)
      obtain ⟨c0, c1, c2⟩ := hcs k (by omega)
      obtain ⟨x, hx⟩ : ∃ x, x = a8 xs k := ⟨_, rfl⟩
      rw [← hx] at c0 c1 c2
      have c0' := keep_cell hb c0
      have c1' := keep_cell hb c1
      have c2' := keep_cell hb c2
      have HO := hid_mk (HOKS.out k (by omega))
      rw [← hx] at HO
      have HSR := hid_mk T.out.srt
      have ba : Below wr.heap.size wr (wr.alloc (.cells #[.int .u8 x.kind, .int .u8 x.key, .int .u8 x.id] 30)) := balloc _
      have YA := heap_alloc_new wr (.cells #[.int .u8 x.kind, .int .u8 x.key, .int .u8 x.id] 30)
      clear hcs c0 c1 c2 hx
      go_wp2_with fail
      refine (entry_any x _ HO.out).mono ?_
      rintro r w3 ⟨rfl, b3⟩
      obtain ⟨q, hq⟩ : ∃ q, q = x.ent := ⟨_, rfl⟩
      rw [← hq]
      clear hq
      have hs3 : wr.heap.size < w3.heap.size := by have := b3.size; simp at this; omega
      have YA3 := below_block b3 (by simp) YA
      have b4 : Below w3.heap.size w3 (w3.alloc (.cells #[.string q.key, .int .i64 q.id] 28)) := balloc _
      have YA4 := below_block b4 hs3 YA3
      have YQ := heap_alloc_new w3 (.cells #[.string q.key, .int .i64 q.id] 28)
      have bb := bthen (bthen ba b3) b4
      have T4 := hid_mk (T.out.below bb)
      have R4 := hid_mk (R.out.below bb)
      have XA4 := hid_mk (below_block bb (by omega) XA.out)
      have XR4 := hid_mk (below_block bb hX XR.out)
      have hb4 := hb.trans (bb.mono hb.size)
      have HYA := hid_mk YA4
      have HYQ := hid_mk YQ
      have ya0 := (cell_of_row _ _ 0 _ _ _ YA4).trans rfl
      have hlT := (T.out.size).1
      have HNY : Hid (∀ j, F j → j < wr.heap.size) := hid_mk fun j hj => (T.out.foot j hj).2
      clear ba b3 b4 bb YA YA3 YA4 YQ T R XA XR hb c0' c1' c2'
      by_cases hkd : x.kind < 140
      · go_wp2_with fail
        refine (with_any w1.heap.size L _ q true _ R4.out HSR.out (by omega)).mono ?_
        rintro r w5 ⟨u, rfl, R5, b5⟩
        rw [withL_true] at R5
        obtain ⟨z, hz⟩ : ∃ z, z = (decide (q ∈ L) != true) := ⟨_, rfl⟩
        rw [← hz]
        obtain ⟨A5, c5, rfl, _, _, _, _⟩ := R5.shape
        have T5 := hid_mk (T4.out.below b5)
        have XA5 := hid_mk (below_block b5 (lt_of_block XA4.out) XA4.out)
        have XR5 := hid_mk (below_block b5 (lt_of_block XR4.out) XR4.out)
        have YA5 := hid_mk (below_block b5 (lt_of_block HYA.out) HYA.out)
        have YQ5 := hid_mk (below_block b5 (lt_of_block HYQ.out) HYQ.out)
        have v0 := (cell_of_row w5 _ 0 _ _ _ YA5.out).trans rfl
        have u0 := (cell_of_row w5 _ 0 _ _ _ YQ5.out).trans rfl
        have u1 := (cell_of_row w5 _ 1 _ _ _ YQ5.out).trans rfl
        have hb5 := hb4.trans (b5.mono hb4.size)
        have AP5 : Hid (Apart (Value.slice A5 (add q L).length c5) F) := hid_mk fun j hj hf => by
          have h1 := (R5.lt j hj).1
          have h2 := HNY.out j hf
          simp at h1
          omega
        have HR5 := hid_mk (R5.base (show w1.heap.size ≤ _ by simp; omega))
        have haL := add_le (e := q) HSR.out
        clear hz b5 R5 ya0 T4 R4 XA4 XR4 HYA HYQ hb4
        go_wp2_with fail
        refine (tadd_any w1.heap.size p L F q _ T5.out (by omega)).mono ?_
        rintro r w6 ⟨rfl, F', T6, m6⟩
        have R6 := hid_mk (m6.rw_ HR5.out AP5.out)
        have AP6 := hid_mk (AP5.out.moved m6 fun j hj => (HR5.out.lt j hj).2)
        have XA6 := hid_mk (m6.at_ XA5.out (fun h9 => by have := (T5.out.foot _ h9).1; omega))
        have XR6 := hid_mk (m6.at_ XR5.out (fun h9 => by have := (T5.out.foot _ h9).1; omega))
        have hb6 := hb5.trans ((T5.out.moved m6).mono (by omega))
        have HT6 := hid_mk T6
        clear m6 T6 T5 HR5 AP5 XA5 XR5 YA5 YQ5 hb5 v0 u0 u1
        go_wp2_with fail
        exact ⟨⟨k + 1, _, F', by go_num, by omega, by omega, HT6, R6, AP6, hb6, XA6, XR6⟩, by simp [intOf]; omega⟩
      · have hd9 : decide (x.kind < 140) = false := decide_eq_false hkd
        go_wp2_with fail
        refine (with_any w1.heap.size L _ q false _ R4.out HSR.out (by omega)).mono ?_
        rintro r w5 ⟨u, rfl, R5, b5⟩
        rw [withL_false] at R5
        obtain ⟨z, hz⟩ : ∃ z, z = (decide (q ∈ L) != false) := ⟨_, rfl⟩
        rw [← hz]
        obtain ⟨A5, c5, rfl, _, _, _, _⟩ := R5.shape
        have T5 := hid_mk (T4.out.below b5)
        have XA5 := hid_mk (below_block b5 (lt_of_block XA4.out) XA4.out)
        have XR5 := hid_mk (below_block b5 (lt_of_block XR4.out) XR4.out)
        have YA5 := hid_mk (below_block b5 (lt_of_block HYA.out) HYA.out)
        have YQ5 := hid_mk (below_block b5 (lt_of_block HYQ.out) HYQ.out)
        have v0 := (cell_of_row w5 _ 0 _ _ _ YA5.out).trans rfl
        have u0 := (cell_of_row w5 _ 0 _ _ _ YQ5.out).trans rfl
        have u1 := (cell_of_row w5 _ 1 _ _ _ YQ5.out).trans rfl
        have hb5 := hb4.trans (b5.mono hb4.size)
        have AP5 : Hid (Apart (Value.slice A5 (del q L).length c5) F) := hid_mk fun j hj hf => by
          have h1 := (R5.lt j hj).1
          have h2 := HNY.out j hf
          simp at h1
          omega
        have HR5 := hid_mk (R5.base (show w1.heap.size ≤ _ by simp; omega))
        have haL := del_le (e := q) HSR.out
        clear hz b5 R5 ya0 T4 R4 XA4 XR4 HYA HYQ hb4
        go_wp2_with fail
        refine (tdel_any w1.heap.size p L F q _ T5.out (by omega)).mono ?_
        rintro r w6 ⟨rfl, F', T6, m6⟩
        have R6 := hid_mk (m6.rw_ HR5.out AP5.out)
        have AP6 := hid_mk (AP5.out.moved m6 fun j hj => (HR5.out.lt j hj).2)
        have XA6 := hid_mk (m6.at_ XA5.out (fun h9 => by have := (T5.out.foot _ h9).1; omega))
        have XR6 := hid_mk (m6.at_ XR5.out (fun h9 => by have := (T5.out.foot _ h9).1; omega))
        have hb6 := hb5.trans ((T5.out.moved m6).mono (by omega))
        have HT6 := hid_mk T6
        clear m6 T6 T5 HR5 AP5 XA5 XR5 YA5 YQ5 hb5 v0 u0 u1
        go_wp2_with fail
        exact ⟨⟨k + 1, _, F', by go_num, by omega, by omega, HT6, R6, AP6, hb6, XA6, XR6⟩, by simp [intOf]; omega⟩
    · obtain rfl : k = m := by omega
      have rr0 := (cell_of_row wr _ 0 _ _ _ XR.out).trans rfl
      have rr1 := (cell_of_row wr _ 1 _ _ _ XR.out).trans rfl
      have aa0 := (cell_of_row wr _ 0 _ _ _ XA.out).trans rfl
      have aa1 := (cell_of_row wr _ 1 _ _ _ XA.out).trans rfl
      have aa2 := (cell_of_row wr _ 2 _ _ _ XA.out).trans rfl
      have hbs := hb.size
      have hne1 : ¬ wr.heap.size = w.heap.size := by omega
      have hne2 : ¬ wr.heap.size = w.heap.size + 1 := by omega
      have ba : Below wr.heap.size wr (wr.alloc (.cells #[.string raw.key, .int .i64 raw.id] 28)) := balloc _
      have YA := hid_mk (heap_alloc_new wr (.cells #[.string raw.key, .int .i64 raw.id] 28))
      have TA := hid_mk (T.out.below ba)
      have RA := hid_mk (R.out.below ba)
      have hba := hb.trans (ba.mono hbs)
      have aa0 : (wr.alloc (.cells #[.string raw.key, .int .i64 raw.id] 28)).cell? ⟨w.heap.size, 0, none⟩ = some (.int .u8 ea.kind) := keep_cell ba aa0
      have aa1 : (wr.alloc (.cells #[.string raw.key, .int .i64 raw.id] 28)).cell? ⟨w.heap.size, 1, none⟩ = some (.int .u8 ea.key) := keep_cell ba aa1
      have aa2 : (wr.alloc (.cells #[.string raw.key, .int .i64 raw.id] 28)).cell? ⟨w.heap.size, 2, none⟩ = some (.int .u8 ea.id) := keep_cell ba aa2
      have HNF : Hid (¬ F wr.heap.size) := hid_mk fun h9 => by have := (T.out.foot _ h9).2; omega
      have HNO : Hid (¬ own (.slice Ao L.length co) wr.heap.size) := hid_mk fun h9 => by have := (R.out.lt _ h9).2; omega
      clear HOKS HA hlt hk XR XA T R hb
      go_upto_if 62 with fail
      go_cut [] (fun wx => ∃ x : E, Hid (wx.heap[wr.heap.size]? = some (.cells #[.string x.key, .int .i64 x.id] 28 (0, 0))) ∧ Hid (Tree w1.heap.size wx p L F) ∧ Hid (Rw w1.heap.size wx 28 2 (.slice Ao L.length co) L.length (ecells L)) ∧ Below w.heap.size w wx)
      case first =>
        cases ow with
        | false =>
          go_wp2_with fail
          go_meet
          case rel => exact ⟨raw, YA, TA, RA, hba⟩
        | true =>
          go_wp2_with fail
          refine (entry_any ea _ HEA.out).mono ?_
          rintro r w3 ⟨rfl, b3⟩
          obtain ⟨q, hq⟩ : ∃ q, q = ea.ent := ⟨_, rfl⟩
          rw [← hq]
          clear hq
          have hs3 : wr.heap.size < w3.heap.size := by have := b3.size; simp at this; omega
          have Y3 := below_block b3 (by simp) YA.out
          have T3 := TA.out.below b3
          have R3 := RA.out.below b3
          have hb3 := hba.trans (b3.mono (by simp; omega))
          have q0 := (cell_of_row w3 _ 0 _ _ _ Y3).trans rfl
          have q1 := (cell_of_row w3 _ 1 _ _ _ Y3).trans rfl
          have qf0 : w3.frozen? ⟨wr.heap.size, 0, none⟩ = false := by simp [World.frozen?, Y3]
          have qf1 : w3.frozen? ⟨wr.heap.size, 1, none⟩ = false := by simp [World.frozen?, Y3]
          have Y4 := block_setCell Y3 0 (.string q.key) (by simp)
          have Y5 := hid_mk (block_setCell Y4 1 (.int .i64 q.id) (by simp))
          have T5 := hid_mk (tree_cell (tree_cell T3 HNF.out 0 (.string q.key)) HNF.out 1 (.int .i64 q.id))
          have R5 := hid_mk ((R3.setCell_other ⟨wr.heap.size, 0, none⟩ (.string q.key) HNO.out).setCell_other ⟨wr.heap.size, 1, none⟩ (.int .i64 q.id) HNO.out)
          have hb5 := (hb3.setCell (p := ⟨wr.heap.size, 0, none⟩) hbs (.string q.key)).setCell (p := ⟨wr.heap.size, 1, none⟩) hbs (.int .i64 q.id)
          clear Y3 Y4 T3 R3 b3
          go_wp2_with fail
          go_meet
          case rel => exact ⟨q, Y5, T5, R5, hb5⟩
      case rest =>
        obtain ⟨x, X, T, R, hb⟩ := hcut
        have hwc := lt_of_block X.out
        have bz : Below wc.heap.size wc ((wc.alloc (.cells #[.string ⟨#[]⟩, .int .i64 0] 28)).alloc (.cells #[.string ⟨#[]⟩, .int .i64 0] 28)) := bthen (balloc _) (balloc _)
        have Z5 : Hid (((wc.alloc (.cells #[.string ⟨#[]⟩, .int .i64 0] 28)).alloc (.cells #[.string ⟨#[]⟩, .int .i64 0] 28)).heap[wc.heap.size]? = some (.cells #[.string zE.key, .int .i64 zE.id] 28 (0, 0))) :=
          hid_mk ((heap_alloc_old (wc.alloc _) _ (by simp)).trans (heap_alloc_new wc _))
        have Z6 : Hid (((wc.alloc (.cells #[.string ⟨#[]⟩, .int .i64 0] 28)).alloc (.cells #[.string ⟨#[]⟩, .int .i64 0] 28)).heap[wc.heap.size + 1]? = some (.cells #[.string zE.key, .int .i64 zE.id] 28 (0, 0))) := hid_mk (by
          have h9 := heap_alloc_new (wc.alloc (.cells #[.string ⟨#[]⟩, .int .i64 0] 28)) (.cells #[.string ⟨#[]⟩, .int .i64 0] 28)
          rw [World.size_alloc] at h9
          exact h9)
        have HSR := hid_mk T.out.srt
        have hwN : w.heap.size ≤ wr.heap.size := hbs
        obtain ⟨N, hN⟩ : ∃ N, N = wr.heap.size := ⟨_, rfl⟩
        rw [← hN] at X hwN hwc ⊢
        clear hN hbs
        clear TA RA YA hba ba rr0 rr1 aa0 aa1 aa2 hne1 hne2 HNF HNO HEA HAP
        go_wp2_with fail
        go_loopw [17, 18, 69] (fun mo le iv wy => ∃ (k : Nat) (a : E) (m : Bool) (b : E) (l : Bool), iv = .int .i64 k ∧ k ≤ L.length ∧ mo = .bool m ∧ le = .bool l ∧ Hid ((a, m) = hd (above x (L.take k))) ∧ Hid ((b, l) = tl (below x (L.take k))) ∧ Below wc.heap.size wc wy ∧
          Hid (wy.heap[wc.heap.size]? = some (.cells #[.string a.key, .int .i64 a.id] 28 (0, 0))) ∧ Hid (wy.heap[wc.heap.size + 1]? = some (.cells #[.string b.key, .int .i64 b.id] 28 (0, 0)))) (fun _ _ iv _ => L.length - (intOf iv).toNat)
        case atStart => exact ⟨0, zE, false, zE, false, rfl, Nat.zero_le _, rfl, rfl, hid_mk rfl, hid_mk rfl, bz, Z5, Z6⟩
        case round =>
          clear bz Z5 Z6
          obtain ⟨k, a, mo, b, le, rfl, hk, rfl, rfl, HH, HT, hy, ZA, ZB⟩ := hrel
          have TY := hid_mk (T.out.below hy)
          have RY := R.out.below hy
          have XY := hid_mk (below_block hy hwc X.out)
          have x0 := (cell_of_row wr _ 0 _ _ _ XY.out).trans rfl
          have x1 := (cell_of_row wr _ 1 _ _ _ XY.out).trans rfl
          have hys := hy.size
          have hzb := lt_of_block ZB.out
          have hbw9 := hb.size
          by_cases hlt : k < L.length
          · obtain ⟨A9, c9, he9, _, _, hx9⟩ := rw_ents RY
            injection he9 with q1 q2 q3
            subst q1 q3
            obtain ⟨g, rfl, hg, hcs⟩ := hx9 (by omega)
            obtain ⟨d0, d1⟩ := hcs k hlt
            obtain ⟨y, hye⟩ : ∃ y, y = ge L k := ⟨_, rfl⟩
            rw [← hye] at d0 d1
            have HBT := hid_mk (below_take x L k hlt)
            have HAT := hid_mk (above_take x L k hlt)
            rw [← hye] at HBT HAT
            have b1 : Below wr.heap.size wr (wr.alloc (.cells #[.string y.key, .int .i64 y.id] 28)) := balloc _
            have YY := hid_mk (heap_alloc_new wr (.cells #[.string y.key, .int .i64 y.id] 28))
            have hn1 : ¬ wr.heap.size = N := by omega
            have e0 : (wr.alloc (.cells #[.string y.key, .int .i64 y.id] 28)).cell? ⟨N, 0, none⟩ = some (.string x.key) := keep_cell b1 x0
            have e1 : (wr.alloc (.cells #[.string y.key, .int .i64 y.id] 28)).cell? ⟨N, 1, none⟩ = some (.int .i64 x.id) := keep_cell b1 x1
            have XY1 := hid_mk (below_block b1 (lt_of_block XY.out) XY.out)
            have ZA1 := hid_mk (below_block b1 (by omega) ZA.out)
            have ZB1 := hid_mk (below_block b1 (by omega) ZB.out)
            have hy1 := hy.trans (b1.mono hys)
            clear hcs hx9 RY TY hye q2 XY ZA ZB hy x0 x1 b1
            go_wp2_with fail
            refine (lawbelow_any y x _).mono ?_
            rintro r w3 ⟨rfl, b3⟩
            have XY3 := hid_mk (below_block b3 (lt_of_block XY1.out) XY1.out)
            have ZA3 := hid_mk (below_block b3 (lt_of_block ZA1.out) ZA1.out)
            have ZB3 := hid_mk (below_block b3 (lt_of_block ZB1.out) ZB1.out)
            have YY3 := hid_mk (below_block b3 (lt_of_block YY.out) YY.out)
            have hy3 := hy1.trans (b3.mono hy1.size)
            have hs3 : wr.heap.size < w3.heap.size := by have := b3.size; simp at this; omega
            have x0 := (cell_of_row w3 _ 0 _ _ _ XY3.out).trans rfl
            have x1 := (cell_of_row w3 _ 1 _ _ _ XY3.out).trans rfl
            have y0 := (cell_of_row w3 _ 0 _ _ _ YY3.out).trans rfl
            have y1 := (cell_of_row w3 _ 1 _ _ _ YY3.out).trans rfl
            clear e0 e1 d0 d1 XY1 ZA1 ZB1 YY b3 hy1
            by_cases h1 : lt y x
            · have HN := hid_mk (lt_asymm h1)
              have HB9 : Hid ((y, true) = tl (below x (L.take (k + 1)))) := hid_mk (by rw [HBT.out, if_pos h1, tl_more])
              have HA9 : Hid ((a, mo) = hd (above x (L.take (k + 1)))) := hid_mk (by rw [HAT.out, if_neg HN.out, List.append_nil]; exact HH.out)
              have zf0 : w3.frozen? ⟨wc.heap.size + 1, 0, none⟩ = false := by simp [World.frozen?, ZB3.out]
              have zf1 : w3.frozen? ⟨wc.heap.size + 1, 1, none⟩ = false := by simp [World.frozen?, ZB3.out]
              have z0 := (cell_of_row w3 _ 0 _ _ _ ZB3.out).trans rfl
              have z1 := (cell_of_row w3 _ 1 _ _ _ ZB3.out).trans rfl
              have ZB4 := hid_mk (block_setCell ZB3.out 0 (.string y.key) (by simp))
              have ZB5 := hid_mk (block_setCell ZB4.out 1 (.int .i64 y.id) (by simp))
              have hy5 := (hy3.setCell (p := ⟨wc.heap.size + 1, 0, none⟩) (by show wc.heap.size ≤ wc.heap.size + 1; omega) (.string y.key)).setCell (p := ⟨wc.heap.size + 1, 1, none⟩) (by show wc.heap.size ≤ wc.heap.size + 1; omega) (.int .i64 y.id)
              have ZA5 := hid_mk (show ((w3.setCell ⟨wc.heap.size + 1, 0, none⟩ (.string y.key)).setCell ⟨wc.heap.size + 1, 1, none⟩ (.int .i64 y.id)).heap[wc.heap.size]? = some (.cells #[.string a.key, .int .i64 a.id] 28 (0, 0)) from by rw [heap_setCell_other _ _ _ _ (by simp), heap_setCell_other _ _ _ _ (by simp)]; exact ZA3.out)
              have hN1 : ¬ N = wc.heap.size + 1 := by omega
              have hN2 : ¬ wr.heap.size = wc.heap.size + 1 := by omega
              rw [decide_eq_true h1]
              clear h1 HBT HAT HH HT ZB4 hy3
              go_wp2_with fail
              refine (lawbelow_any x y _).mono ?_
              rintro r w6 ⟨rfl, b6⟩
              rw [decide_eq_false HN.out]
              have hy6 := hy5.trans (b6.mono hy5.size)
              have ZA6 := hid_mk (below_block b6 (lt_of_block ZA5.out) ZA5.out)
              have ZB6 := hid_mk (below_block b6 (lt_of_block ZB5.out) ZB5.out)
              clear b6 hy5 ZA5 ZB5 x0 x1 y0 y1 z0 z1 zf0 zf1
              go_wp2_with fail
              exact ⟨⟨k + 1, a, mo, y, true, by go_num, by omega, rfl, rfl, HA9, HB9, hy6, ZA6, ZB6⟩, by simp [intOf]; omega⟩
            · have HB9 : Hid ((b, le) = tl (below x (L.take (k + 1)))) := hid_mk (by rw [HBT.out, if_neg h1, List.append_nil]; exact HT.out)
              rw [decide_eq_false h1]
              clear h1 HBT
              go_wp2_with fail
              refine (lawbelow_any x y _).mono ?_
              rintro r w6 ⟨rfl, b6⟩
              have hy6 := hy3.trans (b6.mono hy3.size)
              have ZA6 := hid_mk (below_block b6 (lt_of_block ZA3.out) ZA3.out)
              have ZB6 := hid_mk (below_block b6 (lt_of_block ZB3.out) ZB3.out)
              have YY6 := hid_mk (below_block b6 (lt_of_block YY3.out) YY3.out)
              clear b6 hy3 x0 x1 y0 y1
              by_cases h2 : lt x y
              · rw [decide_eq_true h2]
                cases mo with
                | true =>
                  have HA9 : Hid ((a, true) = hd (above x (L.take (k + 1)))) := hid_mk (by rw [HAT.out, if_pos h2, hd_more, ← HH.out]; rfl)
                  clear h2 HAT HH HT
                  go_wp2_with fail
                  exact ⟨⟨k + 1, a, true, b, le, by go_num, by omega, rfl, rfl, HA9, HB9, hy6, ZA6, ZB6⟩, by simp [intOf]; omega⟩
                | false =>
                  have HA9 : Hid ((y, true) = hd (above x (L.take (k + 1)))) := hid_mk (by rw [HAT.out, if_pos h2, hd_more, ← HH.out]; rfl)
                  have y0 := (cell_of_row w6 _ 0 _ _ _ YY6.out).trans rfl
                  have y1 := (cell_of_row w6 _ 1 _ _ _ YY6.out).trans rfl
                  have zf0 : w6.frozen? ⟨wc.heap.size, 0, none⟩ = false := by simp [World.frozen?, ZA6.out]
                  have zf1 : w6.frozen? ⟨wc.heap.size, 1, none⟩ = false := by simp [World.frozen?, ZA6.out]
                  have z0 := (cell_of_row w6 _ 0 _ _ _ ZA6.out).trans rfl
                  have z1 := (cell_of_row w6 _ 1 _ _ _ ZA6.out).trans rfl
                  have ZA7 := hid_mk (block_setCell ZA6.out 0 (.string y.key) (by simp))
                  have ZA8 := hid_mk (block_setCell ZA7.out 1 (.int .i64 y.id) (by simp))
                  have hy8 := (hy6.setCell (p := ⟨wc.heap.size, 0, none⟩) (Nat.le_refl _) (.string y.key)).setCell (p := ⟨wc.heap.size, 1, none⟩) (Nat.le_refl _) (.int .i64 y.id)
                  have ZB8 := hid_mk (show ((w6.setCell ⟨wc.heap.size, 0, none⟩ (.string y.key)).setCell ⟨wc.heap.size, 1, none⟩ (.int .i64 y.id)).heap[wc.heap.size + 1]? = some (.cells #[.string b.key, .int .i64 b.id] 28 (0, 0)) from by rw [heap_setCell_other _ _ _ _ (by simp), heap_setCell_other _ _ _ _ (by simp)]; exact ZB6.out)
                  clear h2 HAT HH HT ZA7 hy6 ZA6 ZB6
                  go_wp2_with fail
                  exact ⟨⟨k + 1, y, true, b, le, by go_num, by omega, rfl, rfl, HA9, HB9, hy8, ZA8, ZB8⟩, by simp [intOf]; omega⟩
              · have HA9 : Hid ((a, mo) = hd (above x (L.take (k + 1)))) := hid_mk (by rw [HAT.out, if_neg h2, List.append_nil]; exact HH.out)
                rw [decide_eq_false h2]
                clear h2 HAT HH HT
                go_wp2_with fail
                exact ⟨⟨k + 1, a, mo, b, le, by go_num, by omega, rfl, rfl, HA9, HB9, hy6, ZA6, ZB6⟩, by simp [intOf]; omega⟩
          · have hkL : k = L.length := by omega
            have HA9 : Hid (hd (above x L) = (a, mo)) := hid_mk (by have h9 := HH.out; rw [List.take_of_length_le (by omega)] at h9; exact h9.symm)
            have HB9 : Hid (tl (below x L) = (b, le)) := hid_mk (by have h9 := HT.out; rw [List.take_of_length_le (by omega)] at h9; exact h9.symm)
            have hby := hb.trans (hy.mono hbw9)
            clear HH HT hy
            go_wp2_with fail
            refine (after_any w1.heap.size p L F x _ TY.out).mono ?_
            rintro r w3 ⟨rfl, b3⟩
            rw [HA9.out]
            have b4 : Below w3.heap.size w3 (w3.alloc (.cells #[.string a.key, .int .i64 a.id] 28)) := balloc _
            have bb := bthen b3 b4
            have TY4 := hid_mk (TY.out.below bb)
            have XY4 := hid_mk (below_block bb (lt_of_block XY.out) XY.out)
            have ZA4 := hid_mk (below_block bb (lt_of_block ZA.out) ZA.out)
            have ZB4 := hid_mk (below_block bb (lt_of_block ZB.out) ZB.out)
            have UA4 := hid_mk (heap_alloc_new w3 (.cells #[.string a.key, .int .i64 a.id] 28))
            have hb4 := hby.trans (bb.mono hby.size)
            have e0 := (cell_of_row _ _ 0 _ _ _ XY4.out).trans rfl
            have e1 := (cell_of_row _ _ 1 _ _ _ XY4.out).trans rfl
            clear TY XY ZA ZB b3 b4 bb hby x0 x1
            go_wp2_with fail
            refine (before_any w1.heap.size p L F x _ TY4.out).mono ?_
            rintro r w5 ⟨rfl, b5⟩
            rw [HB9.out]
            have ZA5 := hid_mk (below_block b5 (lt_of_block ZA4.out) ZA4.out)
            have ZB5 := hid_mk (below_block b5 (lt_of_block ZB4.out) ZB4.out)
            have UA5 := hid_mk (below_block b5 (lt_of_block UA4.out) UA4.out)
            have b6 : Below w5.heap.size w5 (w5.alloc (.cells #[.string b.key, .int .i64 b.id] 28)) := balloc _
            have ZA6 := hid_mk (below_block b6 (lt_of_block ZA5.out) ZA5.out)
            have ZB6 := hid_mk (below_block b6 (lt_of_block ZB5.out) ZB5.out)
            have UA6 := hid_mk (below_block b6 (lt_of_block UA5.out) UA5.out)
            have hb6 := hb4.trans ((bthen b5 b6).mono hb4.size)
            have a0 := (cell_of_row _ _ 0 _ _ _ ZA6.out).trans rfl
            have a1 := (cell_of_row _ _ 1 _ _ _ ZA6.out).trans rfl
            have c0 := (cell_of_row _ _ 0 _ _ _ ZB6.out).trans rfl
            have c1 := (cell_of_row _ _ 1 _ _ _ ZB6.out).trans rfl
            have u0 := (cell_of_row _ _ 0 _ _ _ UA6.out).trans rfl
            have u1 := (cell_of_row _ _ 1 _ _ _ UA6.out).trans rfl
            have hmm : (mo == mo) = true := by simp
            have hll : (le == le) = true := by simp
            clear TY4 XY4 ZA4 ZB4 UA4 ZA5 ZB5 UA5 b5 b6 hb4 e0 e1
            go_wp2_with fail
            go_ret
            exact ⟨rfl, hb6⟩

end Go.Proofs.Ytfkhbppkdapkcaa
