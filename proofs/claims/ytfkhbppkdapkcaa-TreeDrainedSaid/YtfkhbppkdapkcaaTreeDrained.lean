/- The walk over the law TreeDrained. -/
import Derived.Test.YtfkhbppkdapkcaaTreeNodes
import Derived.Test.YtfkhbppkdapkcaaTreeRaw
namespace Go.Proofs.Ytfkhbppkdapkcaa
open Go.RowKit
set_option linter.unusedVariables false
attribute [local go_sem ↓] Go.wp_at_zero Go.wp_at_succ

theorem first_of {L : List E} (hs : Srt L) (h0 : L ≠ []) : (hd L).1 ∈ L ∧ (hd L).2 = true ∧ ∀ x ∈ del (hd L).1 L, lt (hd L).1 x := by
  rcases L with _ | ⟨x, r⟩
  · exact absurd rfl h0
  · refine ⟨List.mem_cons_self .., rfl, fun y hy => ?_⟩
    obtain ⟨h1, h2⟩ := (mem_del x y (x :: r)).1 hy
    rcases List.mem_cons.1 h2 with h3 | h3
    · exact absurd h3 h1
    · exact List.rel_of_pairwise_cons hs h3
theorem last_of2 {L : List E} (hs : Srt L) (h0 : L ≠ []) : (tl L).1 ∈ L ∧ (tl L).2 = true ∧ ∀ x ∈ del (tl L).1 L, lt x (tl L).1 := by
  obtain ⟨h1, h2, h3⟩ := last_of hs h0
  refine ⟨h1, h3, fun x hx => ?_⟩
  rw [← h2] at hs
  exact (List.pairwise_append.1 hs).2.2 x hx _ (by simp)
/-- What was taken last stands on the far side of all that is left. -/
def Past (dn : Bool) (q : E) (L : List E) : Prop := q = zE ∨ ∀ x ∈ L, if dn then lt x q else lt q x
theorem past_dec {dn : Bool} {q g : E} {L : List E} (h : Past dn q L) (hg : g ∈ L) (hq : q ≠ zE) : decide (lt q g) = !dn := by
  rcases h with h | h
  · exact absurd h hq
  · have h1 := h g hg
    cases dn with
    | true => exact decide_eq_false (lt_asymm (by simpa using h1))
    | false => exact decide_eq_true (by simpa using h1)
theorem Tree.cell {B p b : Nat} {L : List E} {F : Nat → Prop} {w : World} (H : Tree B w p L F) (hb : ¬ F b) (o : Nat) (u : Value) : Tree B (w.setCell ⟨b, o, none⟩ u) p L F :=
  H.other (Mv.setCell (F := (· = b)) (w := w) (a := ⟨b, o, none⟩) u rfl) fun k hk e => hb (e ▸ hk)
theorem not_zE {q : E} (h : q ≠ zE) : ¬ q.key.toList = [] ∨ (q.key.toList = [] ∧ ¬ q.id = 0) := by
  by_cases h9 : q.key.toList = []
  · refine .inr ⟨h9, fun h8 => h ?_⟩
    rw [Lib.toList_data] at h9
    rcases q with ⟨⟨⟨qk⟩⟩, qi⟩
    simp only at h9 h8
    unfold zE
    rw [h9, h8]
  · exact .inl h9
theorem nil_nodes {h : Nat} {t : T} (hg : Good h t) (h1 : h ≠ 0 → 1 ≤ t.l.length) (h0 : ents h t = []) : nodesOf h t 1 = [⟨1, 0, true⟩] := by
  cases h with
  | zero =>
    have h2 : t.l = [] := h0
    show [(⟨1, t.l.length, true⟩ : Nn)] = _
    rw [h2]; rfl
  | succ h => exact absurd h0 (ents_ne hg (h1 (by omega)))

set_option maxHeartbeats 4000000 in
set_option maxRecDepth 100000 in
theorem drained_walk (A : Option Addr) (n cap : Nat) (xs : List A8) (dn : Bool) (w : World) (hin : InA8 w A n cap xs) :
    Calls Try.prog 7 #[.slice A n cap, .bool dn] w fun e w' => e = .returned (.bool true) ∧ Below w.heap.size w w' := by
  obtain ⟨hxl, hnc, hcap, hoks, hA⟩ := hin
  obtain ⟨m, hmn, hm100, _, hmin⟩ := min_fact Try.prog n 100 (by omega)
  have hmc : m ≤ cap := by omega
  have HOKS := hid_mk hoks
  have HA := hid_mk hA
  clear hoks hA hxl
  go_enter Try.func7, Try.ntmps7
  go_wp2_with fail
  refine (awake_any _).mono ?_
  rintro e w1 ⟨rfl, b1⟩
  go_wp2_with fail
  refine (new_any _).mono ?_
  rintro e w2 ⟨p, F, rfl, T1, b2⟩
  have hs1 := b1.size
  have hb2 := bthen b1 b2
  have HT1 := hid_mk T1
  clear T1 b1 b2
  go_wp2_with fail
  clear hmin
  go_loopw [24] (fun iv wr => ∃ (k : Nat) (L : List E) (F : Nat → Prop), iv = .int .i64 k ∧ k ≤ m ∧ L.length ≤ k ∧ Hid (Tree w1.heap.size wr p L F) ∧ Below w.heap.size w wr) (fun iv _ => m - (intOf iv).toNat)
  case atStart => exact ⟨0, [], F, rfl, Nat.zero_le _, Nat.le_refl _, HT1, hb2⟩
  case round =>
    clear HT1 hb2
    obtain ⟨k, L, F, rfl, hk, hl, T, hb⟩ := hrel
    by_cases hlt : k < m
    · obtain ⟨b, off, rfl, hbw, hcs⟩ := HA.out (by omega)
      obtain ⟨c0, c1, c2⟩ := hcs k (by omega)
      have c0' := keep_cell hb c0
      have c1' := keep_cell hb c1
      have c2' := keep_cell hb c2
      have HO := hid_mk (HOKS.out k (by omega))
      obtain ⟨x, hx⟩ : ∃ x, x = a8 xs k := ⟨_, rfl⟩
      rw [← hx] at c0' c1' c2' HO
      have HSR := hid_mk T.out.srt
      have hbb : Below wr.heap.size wr (wr.alloc (.cells #[.int .u8 x.kind, .int .u8 x.key, .int .u8 x.id] 30)) := balloc _
      clear hcs c0 c1 c2 hx
      go_wp2_with fail
      refine (entry_any x _ HO.out).mono ?_
      rintro e w4 ⟨rfl, b4⟩
      have b14 := bthen hbb b4
      have T4 := hid_mk (T.out.below b14)
      have hb4 := hb.trans (b14.mono hb.size)
      clear b4 hbb b14 c0' c1' c2'
      go_wp2_with fail
      refine (tadd_any w1.heap.size p L F x.ent _ T4.out (by omega)).mono ?_
      rintro e w5 ⟨rfl, F', T5, m5⟩
      have hb5 := hb4.trans ((T4.out.moved m5).mono hs1)
      have hL := add_le (e := x.ent) HSR.out
      have HT5 := hid_mk T5
      clear m5 T5 T4 hb4 hb T
      go_wp2_with fail
      exact ⟨⟨k + 1, _, F', by go_num, by omega, by omega, HT5, hb5⟩, by simp [intOf]; omega⟩
    · obtain rfl : k = m := by omega
      have hL1000 : L.length < 1000 := by omega
      clear hl hlt hmn hmc hm100 hk HOKS HA
      go_wp2_with fail
      have bx : Below wr.heap.size wr (wr.alloc (.cells #[.string ⟨#[]⟩, .int .i64 0] 28)) := balloc _
      have HX0 := hid_mk (heap_alloc_new wr (.cells #[.string ⟨#[]⟩, .int .i64 0] 28))
      obtain ⟨b, hbdef⟩ : ∃ b, b = wr.heap.size := ⟨_, rfl⟩
      have TA := hid_mk (T.out.below bx)
      have hbA := hb.trans (bx.mono hb.size)
      refine (len_any w1.heap.size p L F _ TA.out).mono ?_
      rintro e w3 ⟨rfl, rfl⟩
      obtain ⟨w3, hw3⟩ : ∃ w3, w3 = wr.alloc (.cells #[.string ⟨#[]⟩, .int .i64 0] 28) := ⟨_, rfl⟩
      have hbw : w.heap.size ≤ wr.heap.size := hb.size
      have HFB : Hid (¬ F b) := hid_mk fun h9 => by have := (T.out.foot b h9).2; omega
      rw [← hw3] at HX0 TA hbA ⊢
      rw [← hbdef] at HX0 hbw ⊢
      clear hw3 bx hb T hbdef
      go_wp2_with fail
      obtain ⟨M, hM⟩ : ∃ M, M = L.length := ⟨_, rfl⟩
      rw [← hM] at hL1000 ⊢
      have HM0 : Hid (L.length = M) := hid_mk hM.symm
      have HP0 : Hid (Past dn zE L) := hid_mk (.inl rfl)
      have HX3' : Hid (w3.heap[b]? = some (.cells #[.string zE.key, .int .i64 zE.id] 28 (0, 0))) := HX0
      clear hM HX0
      go_loopw [9] (fun iv wx => ∃ (k : Nat) (L : List E) (F : Nat → Prop) (q : E), iv = .int .i64 k ∧ k ≤ M ∧ Hid (L.length = k) ∧ Hid (Tree w1.heap.size wx p L F) ∧ Below w.heap.size w wx ∧ Hid (wx.heap[b]? = some (.cells #[.string q.key, .int .i64 q.id] 28 (0, 0))) ∧ Hid (Past dn q L) ∧ Hid (¬ F b)) (fun iv _ => (intOf iv).toNat)
      case atStart => exact ⟨M, L, F, zE, rfl, Nat.le_refl _, HM0, TA, hbA, HX3', HP0, HFB⟩
      case round =>
        clear HM0 TA hbA HX3' HP0 HFB
        obtain ⟨k, L, F, q, rfl, hk, HL, T, hb, X, HP, NB⟩ := hrel
        by_cases hk0 : k = 0
        · subst hk0
          have hnil : L = [] := List.eq_nil_of_length_eq_zero HL.out
          have HNIL := hid_mk hnil
          clear hnil
          obtain ⟨h, t, ω, HAT, hents, hF⟩ := T.out
          have hnod := nil_nodes HAT.good HAT.one (hents.symm.trans HNIL.out)
          have hlt9 : (ents h t).length < 1000000000 := by rw [← hents, HNIL.out]; simp
          have HND := hid_mk hnod
          have HHAT := hid_mk HAT
          have HLT9 := hid_mk hlt9
          clear hnod HAT hents hF hlt9
          go_wp2_with fail
          refine (nodes_meth w1.heap.size p h t ω _ HHAT.out HLT9.out).mono ?_
          rintro e w4 ⟨v, rfl, R, b4⟩
          rw [HND.out] at R
          obtain ⟨A4, c4, rfl, hc4, hm4, _, h4⟩ := R.shape
          rcases A4 with _ | A4
          · rcases R.2 with ⟨h9, _⟩ | ⟨_, _, _, h9, _⟩
            · cases h9
            · cases h9
          obtain ⟨g4, rfl, _, _, _, hc⟩ := h4 _ rfl
          have z0 := hc 0 (.int .i64 1) rfl
          have z1 := hc 1 (.int .i64 0) rfl
          have z2 := hc 2 (.bool true) rfl
          have T4 := hid_mk (T.out.below b4)
          have hb4 := hb.trans (b4.mono hb.size)
          clear R hc h4 HND
          go_wp2_with fail
          refine (all_any w1.heap.size p L F _ T4.out (by have := HL.out; omega)).mono ?_
          rintro e w5 ⟨v5, rfl, R5, b5⟩
          obtain ⟨A5, c5, rfl, _, _, _⟩ := R5.shape
          rw [HL.out]
          have hb5 := hb4.trans (b5.mono hb4.size)
          clear R5 b5
          go_wp2_with fail
          go_ret
          exact ⟨rfl, hb5⟩
        · have hkp : (0 : Int) < (k : Int) := by omega
          have hne : L ≠ [] := fun h9 => by have := HL.out; rw [h9] at this; simp at this; omega
          have HSR := hid_mk T.out.srt
          have HNE := hid_mk hne
          have hbX := lt_of_block X.out
          clear hne
          cases dn with
          | false =>
            go_wp2_with fail
            refine (first_any w1.heap.size p L F _ T.out).mono ?_
            rintro e w4 ⟨rfl, b4⟩
            obtain ⟨g, hg⟩ : ∃ g, g = (hd L).1 := ⟨_, rfl⟩
            have HG := hid_mk (first_of HSR.out HNE.out)
            rw [HG.out.2.1]
            rw [← hg] at HG ⊢
            clear hg
            have T4 := T.out.below b4
            have hb4 := hb.trans (b4.mono hb.size)
            have X4 := below_block b4 hbX X.out
            have bx : Below w4.heap.size w4 (w4.alloc (.cells #[.string g.key, .int .i64 g.id] 28)) := balloc _
            have T5 := hid_mk (T4.below bx)
            have hb5 := hb4.trans (bx.mono hb4.size)
            have X5 := hid_mk (below_block bx (lt_of_block X4) X4)
            have Y5 := hid_mk (heap_alloc_new w4 (.cells #[.string g.key, .int .i64 g.id] 28))
            have NX := NB
            have NY : Hid (¬ F w4.heap.size) := hid_mk fun h9 => by have := (T4.foot _ h9).2; omega
            have HDL := hid_mk ((del_length (e := g) HSR.out).1 HG.out.1)
            have hbq := hb5.size
            have yy0 := (cell_of_row _ _ 0 _ _ _ Y5.out).trans rfl
            have yy1 := (cell_of_row _ _ 1 _ _ _ Y5.out).trans rfl
            have hne4 : ¬ w4.heap.size = b := by have := lt_of_block X4; omega
            have hbwb : w.heap.size ≤ b := hbw
            clear X4 T4 b4 T hb hb4
            go_wp2_with fail
            refine (tdel_any w1.heap.size p L F g _ T5.out (by have := HL.out; omega)).mono ?_
            rintro e w6 ⟨rfl, F', T6, m6⟩
            rw [decide_eq_true HG.out.1]
            have hb6 := hb5.trans ((T5.out.moved m6).mono hs1)
            have HT6 := hid_mk T6
            have X6 := hid_mk (m6.at_ X5.out NX.out)
            have Y6 := hid_mk (m6.at_ Y5.out NY.out)
            have hX6 := lt_of_block X6.out
            have hY6 := lt_of_block Y6.out
            have NB' : Hid (¬ F' b) := hid_mk fun h9 => by
              rcases m6.new b h9 with h8 | h8
              · exact NB.out h8
              · have := lt_of_block X5.out; omega
            clear m6 T6 T5 X5 Y5 NX NY hb5 hbq yy0 yy1
            obtain ⟨K, hK⟩ : ∃ K, K = (del g L).length := ⟨_, rfl⟩
            have hkK : k = K + 1 := by have := HDL.out; have := HL.out; omega
            have hw1 : IntKind.i64.wrap ((k : Int) - 1) = (K : Int) := by rw [IntKind.wrap_i64]; omega
            have HKL : Hid ((del g L).length = K) := hid_mk hK.symm
            have HKK := hid_mk hkK
            clear hK hkK hk0
            go_wp2_with fail
            refine (len_any w1.heap.size p (del g L) F' _ HT6.out).mono ?_
            rintro e w7 ⟨rfl, rfl⟩
            rw [HKL.out]
            go_wp2_with fail
            refine (right_any w1.heap.size p (del g L) F' _ HT6.out (by have := HKL.out; have := HKK.out; omega)).mono ?_
            rintro e w8 ⟨rfl, b8⟩
            have T8 := hid_mk (HT6.out.below b8)
            have hb8 := hb6.trans (b8.mono hb6.size)
            have X8 := hid_mk (below_block b8 hX6 X6.out)
            have Y8 := hid_mk (below_block b8 hY6 Y6.out)
            have hX8 := lt_of_block X8.out
            have hY8 := lt_of_block Y8.out
            have xf0 : w8.frozen? ⟨b, 0, none⟩ = false := by simp [World.frozen?, X8.out]
            have xf1 : w8.frozen? ⟨b, 1, none⟩ = false := by simp [World.frozen?, X8.out]
            have y0 := (cell_of_row w8 _ 0 _ _ _ Y8.out).trans rfl
            have y1 := (cell_of_row w8 _ 1 _ _ _ Y8.out).trans rfl
            clear b8 hb6 X6 Y6 hX6 hY6 HT6
            have HPN : Hid (Past false g (del g L)) := hid_mk (.inr (by simpa using HG.out.2.2))
            by_cases hq : q = zE
            · have x0 : w8.cell? ⟨b, 0, none⟩ = some (.string ⟨#[]⟩) := (cell_of_row w8 _ 0 _ _ _ X8.out).trans (by rw [hq]; rfl)
              have x1 : w8.cell? ⟨b, 1, none⟩ = some (.int .i64 0) := (cell_of_row w8 _ 1 _ _ _ X8.out).trans (by rw [hq]; rfl)
              have HZ0 := hid_mk (block_setCell X8.out 0 (.string g.key) (by simp))
              have HZ := hid_mk (block_setCell HZ0.out 1 (.int .i64 g.id) (by simp))
              have TZ := hid_mk ((T8.out.cell NB'.out 0 (.string g.key)).cell NB'.out 1 (.int .i64 g.id))
              have hbz := (hb8.setCell (p := ⟨b, 0, none⟩) hbwb (.string g.key)).setCell (p := ⟨b, 1, none⟩) hbwb (.int .i64 g.id)
              clear hq T8 X8 Y8 HZ0
              go_wp2_with fail
              exact ⟨⟨K, _, F', g, rfl, by have := HKK.out; omega, HKL, TZ, hbz, HZ, HPN, NB'⟩, by have := HKK.out; simp [intOf]; omega⟩
            · have HDEC := hid_mk (past_dec HP.out HG.out.1 hq)
              have x0 := (cell_of_row w8 _ 0 _ _ _ X8.out).trans rfl
              have x1 := (cell_of_row w8 _ 1 _ _ _ X8.out).trans rfl
              rcases not_zE hq with hq9 | ⟨hq9, hq8⟩
              all_goals
                clear hq
                go_wp2_with fail
                refine (lawbelow_any q g _).mono ?_
                rintro e w9 ⟨rfl, b9⟩
                rw [HDEC.out]
                have T9 := hid_mk (T8.out.below b9)
                have hb9 := hb8.trans (b9.mono hb8.size)
                have X9 := hid_mk (below_block b9 hX8 X8.out)
                have Y9 := below_block b9 hY8 Y8.out
                have z0 := (cell_of_row w9 _ 0 _ _ _ X9.out).trans rfl
                have z1 := (cell_of_row w9 _ 1 _ _ _ X9.out).trans rfl
                have zf0 : w9.frozen? ⟨b, 0, none⟩ = false := by simp [World.frozen?, X9.out]
                have zf1 : w9.frozen? ⟨b, 1, none⟩ = false := by simp [World.frozen?, X9.out]
                have v0 := (cell_of_row w9 _ 0 _ _ _ Y9).trans rfl
                have v1 := (cell_of_row w9 _ 1 _ _ _ Y9).trans rfl
                have HZ0 := hid_mk (block_setCell X9.out 0 (.string g.key) (by simp))
                have HZ := hid_mk (block_setCell HZ0.out 1 (.int .i64 g.id) (by simp))
                have TZ := hid_mk ((T9.out.cell NB'.out 0 (.string g.key)).cell NB'.out 1 (.int .i64 g.id))
                have hbz := (hb9.setCell (p := ⟨b, 0, none⟩) hbwb (.string g.key)).setCell (p := ⟨b, 1, none⟩) hbwb (.int .i64 g.id)
                clear x0 x1 xf0 xf1 y0 y1 T8 X8 Y8 T9 X9 Y9 HZ0 b9 hb8 hb9
                go_wp2_with fail
                exact ⟨⟨K, _, F', g, rfl, by have := HKK.out; omega, HKL, TZ, hbz, HZ, HPN, NB'⟩, by have := HKK.out; simp [intOf]; omega⟩
          | true =>
            go_wp2_with fail
            refine (first_any w1.heap.size p L F _ T.out).mono ?_
            rintro e w4 ⟨rfl, b4⟩
            obtain ⟨f, hf⟩ : ∃ f, f = (hd L).1 := ⟨_, rfl⟩
            rw [(first_of HSR.out HNE.out).2.1, ← hf]
            clear hf
            have T4a := T.out.below b4
            have hb4a := hb.trans (b4.mono hb.size)
            have X4a := below_block b4 hbX X.out
            have bxa : Below w4.heap.size w4 (w4.alloc (.cells #[.string f.key, .int .i64 f.id] 28)) := balloc _
            have T5a := hid_mk (T4a.below bxa)
            have hb5a := hb4a.trans (bxa.mono hb4a.size)
            have X5a := hid_mk (below_block bxa (lt_of_block X4a) X4a)
            have Y5a := hid_mk (heap_alloc_new w4 (.cells #[.string f.key, .int .i64 f.id] 28))
            have NYa : Hid (¬ F w4.heap.size) := hid_mk fun h9 => by have := (T4a.foot _ h9).2; omega
            have hX5a := lt_of_block X5a.out
            have hY5a := lt_of_block Y5a.out
            have hnea : ¬ w4.heap.size = b := by have := lt_of_block X4a; omega
            have hbwa := hb4a.size
            clear T4a hb4a X4a bxa b4 T hb
            go_wp2_with fail
            refine (last_any w1.heap.size p L F _ T5a.out).mono ?_
            rintro e w5 ⟨rfl, b5⟩
            obtain ⟨g, hg⟩ : ∃ g, g = (tl L).1 := ⟨_, rfl⟩
            have HG := hid_mk (last_of2 HSR.out HNE.out)
            rw [HG.out.2.1]
            rw [← hg] at HG ⊢
            clear hg
            have T5b := hid_mk (T5a.out.below b5)
            have hb5b := hb5a.trans (b5.mono hb5a.size)
            have X5b := below_block b5 hX5a X5a.out
            have Y5b := below_block b5 hY5a Y5a.out
            have s0 := (cell_of_row w5 _ 0 _ _ _ Y5b).trans rfl
            have s1 := (cell_of_row w5 _ 1 _ _ _ Y5b).trans rfl
            have sf0 : w5.frozen? ⟨w4.heap.size, 0, none⟩ = false := by simp [World.frozen?, Y5b]
            have sf1 : w5.frozen? ⟨w4.heap.size, 1, none⟩ = false := by simp [World.frozen?, Y5b]
            have Y5c := block_setCell Y5b 0 (.string g.key) (by simp)
            have Y5 := hid_mk (block_setCell Y5c 1 (.int .i64 g.id) (by simp))
            have T5 := hid_mk ((T5b.out.cell NYa.out 0 (.string g.key)).cell NYa.out 1 (.int .i64 g.id))
            have hb5 := (hb5b.setCell (p := ⟨w4.heap.size, 0, none⟩) hbwa (.string g.key)).setCell (p := ⟨w4.heap.size, 1, none⟩) hbwa (.int .i64 g.id)
            have X5 := hid_mk (show ((w5.setCell ⟨w4.heap.size, 0, none⟩ (.string g.key)).setCell ⟨w4.heap.size, 1, none⟩ (.int .i64 g.id)).heap[b]? = some (.cells #[.string q.key, .int .i64 q.id] 28 (0, 0)) from by rw [heap_setCell_other _ _ _ _ (Ne.symm hnea), heap_setCell_other _ _ _ _ (Ne.symm hnea)]; exact X5b)
            have NX := NB
            have NY := NYa
            have HDL := hid_mk ((del_length (e := g) HSR.out).1 HG.out.1)
            have hbq := hb5.size
            have yy0 := (cell_of_row _ _ 0 _ _ _ Y5.out).trans rfl
            have yy1 := (cell_of_row _ _ 1 _ _ _ Y5.out).trans rfl
            have hbwb : w.heap.size ≤ b := hbw
            clear T5a T5b hb5a hb5b X5a X5b Y5a Y5b Y5c NYa hX5a hY5a b5
            go_wp2_with fail
            refine (tdel_any w1.heap.size p L F g _ T5.out (by have := HL.out; omega)).mono ?_
            rintro e w6 ⟨rfl, F', T6, m6⟩
            rw [decide_eq_true HG.out.1]
            have hb6 := hb5.trans ((T5.out.moved m6).mono hs1)
            have HT6 := hid_mk T6
            have X6 := hid_mk (m6.at_ X5.out NX.out)
            have Y6 := hid_mk (m6.at_ Y5.out NY.out)
            have hX6 := lt_of_block X6.out
            have hY6 := lt_of_block Y6.out
            have NB' : Hid (¬ F' b) := hid_mk fun h9 => by
              rcases m6.new b h9 with h8 | h8
              · exact NB.out h8
              · have := lt_of_block X5.out; omega
            clear m6 T6 T5 X5 Y5 NX NY hb5 hbq yy0 yy1
            obtain ⟨K, hK⟩ : ∃ K, K = (del g L).length := ⟨_, rfl⟩
            have hkK : k = K + 1 := by have := HDL.out; have := HL.out; omega
            have hw1 : IntKind.i64.wrap ((k : Int) - 1) = (K : Int) := by rw [IntKind.wrap_i64]; omega
            have HKL : Hid ((del g L).length = K) := hid_mk hK.symm
            have HKK := hid_mk hkK
            clear hK hkK hk0
            go_wp2_with fail
            refine (len_any w1.heap.size p (del g L) F' _ HT6.out).mono ?_
            rintro e w7 ⟨rfl, rfl⟩
            rw [HKL.out]
            go_wp2_with fail
            refine (right_any w1.heap.size p (del g L) F' _ HT6.out (by have := HKL.out; have := HKK.out; omega)).mono ?_
            rintro e w8 ⟨rfl, b8⟩
            have T8 := hid_mk (HT6.out.below b8)
            have hb8 := hb6.trans (b8.mono hb6.size)
            have X8 := hid_mk (below_block b8 hX6 X6.out)
            have Y8 := hid_mk (below_block b8 hY6 Y6.out)
            have hX8 := lt_of_block X8.out
            have hY8 := lt_of_block Y8.out
            have xf0 : w8.frozen? ⟨b, 0, none⟩ = false := by simp [World.frozen?, X8.out]
            have xf1 : w8.frozen? ⟨b, 1, none⟩ = false := by simp [World.frozen?, X8.out]
            have y0 := (cell_of_row w8 _ 0 _ _ _ Y8.out).trans rfl
            have y1 := (cell_of_row w8 _ 1 _ _ _ Y8.out).trans rfl
            clear b8 hb6 X6 Y6 hX6 hY6 HT6
            have HPN : Hid (Past true g (del g L)) := hid_mk (.inr (by simpa using HG.out.2.2))
            by_cases hq : q = zE
            · have x0 : w8.cell? ⟨b, 0, none⟩ = some (.string ⟨#[]⟩) := (cell_of_row w8 _ 0 _ _ _ X8.out).trans (by rw [hq]; rfl)
              have x1 : w8.cell? ⟨b, 1, none⟩ = some (.int .i64 0) := (cell_of_row w8 _ 1 _ _ _ X8.out).trans (by rw [hq]; rfl)
              have HZ0 := hid_mk (block_setCell X8.out 0 (.string g.key) (by simp))
              have HZ := hid_mk (block_setCell HZ0.out 1 (.int .i64 g.id) (by simp))
              have TZ := hid_mk ((T8.out.cell NB'.out 0 (.string g.key)).cell NB'.out 1 (.int .i64 g.id))
              have hbz := (hb8.setCell (p := ⟨b, 0, none⟩) hbwb (.string g.key)).setCell (p := ⟨b, 1, none⟩) hbwb (.int .i64 g.id)
              clear hq T8 X8 Y8 HZ0
              go_wp2_with fail
              exact ⟨⟨K, _, F', g, rfl, by have := HKK.out; omega, HKL, TZ, hbz, HZ, HPN, NB'⟩, by have := HKK.out; simp [intOf]; omega⟩
            · have HDEC := hid_mk (past_dec HP.out HG.out.1 hq)
              have x0 := (cell_of_row w8 _ 0 _ _ _ X8.out).trans rfl
              have x1 := (cell_of_row w8 _ 1 _ _ _ X8.out).trans rfl
              rcases not_zE hq with hq9 | ⟨hq9, hq8⟩
              all_goals
                clear hq
                go_wp2_with fail
                refine (lawbelow_any q g _).mono ?_
                rintro e w9 ⟨rfl, b9⟩
                rw [HDEC.out]
                have T9 := hid_mk (T8.out.below b9)
                have hb9 := hb8.trans (b9.mono hb8.size)
                have X9 := hid_mk (below_block b9 hX8 X8.out)
                have Y9 := below_block b9 hY8 Y8.out
                have z0 := (cell_of_row w9 _ 0 _ _ _ X9.out).trans rfl
                have z1 := (cell_of_row w9 _ 1 _ _ _ X9.out).trans rfl
                have zf0 : w9.frozen? ⟨b, 0, none⟩ = false := by simp [World.frozen?, X9.out]
                have zf1 : w9.frozen? ⟨b, 1, none⟩ = false := by simp [World.frozen?, X9.out]
                have v0 := (cell_of_row w9 _ 0 _ _ _ Y9).trans rfl
                have v1 := (cell_of_row w9 _ 1 _ _ _ Y9).trans rfl
                have HZ0 := hid_mk (block_setCell X9.out 0 (.string g.key) (by simp))
                have HZ := hid_mk (block_setCell HZ0.out 1 (.int .i64 g.id) (by simp))
                have TZ := hid_mk ((T9.out.cell NB'.out 0 (.string g.key)).cell NB'.out 1 (.int .i64 g.id))
                have hbz := (hb9.setCell (p := ⟨b, 0, none⟩) hbwb (.string g.key)).setCell (p := ⟨b, 1, none⟩) hbwb (.int .i64 g.id)
                clear x0 x1 xf0 xf1 y0 y1 T8 X8 Y8 T9 X9 Y9 HZ0 b9 hb8 hb9
                go_wp2_with fail
                exact ⟨⟨K, _, F', g, rfl, by have := HKK.out; omega, HKL, TZ, hbz, HZ, HPN, NB'⟩, by have := HKK.out; simp [intOf]; omega⟩

end Go.Proofs.Ytfkhbppkdapkcaa
