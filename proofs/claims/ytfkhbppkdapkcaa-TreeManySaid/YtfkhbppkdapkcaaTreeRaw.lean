/- The walk over the law TreeRaw. -/
import Derived.Test.YtfkhbppkdapkcaaTreeW
import Derived.Test.YtfkhbppkdapkcaaTreeZb
import Derived.Test.YtfkhbppkdapkcaaTreeOpen
import Derived.Test.YtfkhbppkdapkcaaTreeTurned
import Derived.Test.YtfkhbppkdapkcaaTreeU
namespace Go.Proofs.Ytfkhbppkdapkcaa
open Go.RowKit
set_option linter.unusedVariables false
attribute [local go_sem ↓] Go.wp_at_zero Go.wp_at_succ

theorem below_get {L : List E} (hs : Srt L) (k : Nat) (hk : k < L.length) : below (ge L k) L = L.take k := by
  have h1 : L = L.take k ++ (ge L k :: L.drop (k + 1)) := by rw [ge_get L k hk, ← List.drop_eq_getElem_cons hk, List.take_append_drop]
  have h2 := hs
  rw [h1] at h2
  obtain ⟨p1, p2, p3⟩ := List.pairwise_append.1 h2
  have p4 : ∀ x ∈ ge L k :: L.drop (k + 1), lt (ge L k) x ∨ x = ge L k := fun x hx => by
    rcases List.mem_cons.1 hx with h9 | h9
    · exact .inr h9
    · exact .inl (List.rel_of_pairwise_cons p2 h9)
  have p5 : ∀ x ∈ L.take k, lt x (ge L k) := fun x hx => p3 x hx _ (List.mem_cons_self ..)
  calc below (ge L k) L = below (ge L k) (L.take k ++ (ge L k :: L.drop (k + 1))) := by rw [← h1]
    _ = L.take k := by rw [below_append, below_all p5, below_none p4, List.append_nil]
theorem tl_take (L : List E) (k : Nat) (hk : k < L.length) : tl (L.take (k + 1)) = (ge L k, true) := by
  unfold tl
  rw [ge_take L k hk, List.getLast?_append]
  rfl
theorem withL_true (e : E) (l : List E) : withL true e l = add e l := rfl
theorem nb_self : ∀ b : Bool, (b != b) = false := by decide
theorem with_false (e : E) (l : List E) : (decide (e ∈ l) != false) = decide (e ∈ l) := by simp
theorem tl_nil : tl [] = (⟨⟨#[]⟩, 0⟩, false) := rfl
theorem with_true (e : E) (l : List E) : (decide (e ∈ l) != true) = decide (e ∉ l) := by by_cases h : e ∈ l <;> simp [h]

set_option maxHeartbeats 2000000 in
set_option maxRecDepth 100000 in
theorem raw_walk (A : Option Addr) (n cap : Nat) (xs : List E) (e : E) (w : World) (hin : InEs w A n cap xs) :
    Calls Try.prog 4 #[.slice A n cap, .agg #[.string e.key, .int .i64 e.id]] w fun r w' => r = .returned (.bool true) ∧ Below w.heap.size w w' := by
  obtain ⟨hxl, hnc, hcap, hA⟩ := hin
  obtain ⟨m, hmn, hm100, _, hmin⟩ := min_fact Try.prog n 60 (by omega)
  have hmc : m ≤ cap := by omega
  have HA := hid_mk hA
  clear hA hxl
  go_enter Try.func4, Try.ntmps4
  go_wp2_with fail
  obtain ⟨w0, hw0⟩ : ∃ w0, w0 = w.alloc (.cells #[.string e.key, .int .i64 e.id] 28) := ⟨_, rfl⟩
  rw [← hw0]
  have B0 : Below w.heap.size w w0 := by rw [hw0]; exact balloc _
  have hs0 : w.heap.size + 1 = w0.heap.size := by rw [hw0]; simp
  have X0 : w0.heap[w.heap.size]? = some (.cells #[.string e.key, .int .i64 e.id] 28 (0, 0)) := by rw [hw0]; exact heap_alloc_new w _
  clear hw0
  refine (awake_any _).mono ?_
  rintro r w1 ⟨rfl, b1⟩
  have X1 := below_block b1 (lt_of_block X0) X0
  have B1 := B0.trans (b1.mono (by omega))
  have hs1 := b1.size
  have hs1' : w.heap.size < w1.heap.size := by omega
  clear b1 X0 B0 hs0 hs1
  go_wp2_with fail
  refine (new_any _).mono ?_
  rintro r w2 ⟨p, F0, rfl, T2, b2⟩
  have X2 := hid_mk (below_block b2 (lt_of_block X1) X1)
  have B2 := B1.trans (b2.mono (by omega))
  have HT2 := hid_mk T2
  clear b2 X1 B1 T2
  go_wp2_with fail
  clear hmin
  go_loopw [6, 27] (fun o iv wr => ∃ (k : Nat) (L : List E) (F : Nat → Prop), iv = .int .i64 k ∧ k ≤ m ∧ L.length ≤ k ∧ Hid (Tree w1.heap.size wr p L F) ∧ Hid (Rw w.heap.size wr 28 2 o L.length (ecells L)) ∧ Hid (Apart o F) ∧ Below w.heap.size w wr ∧
    Hid (wr.heap[w.heap.size]? = some (.cells #[.string e.key, .int .i64 e.id] 28 (0, 0)))) (fun _ iv _ => m - (intOf iv).toNat)
  case atStart => exact ⟨0, [], F0, rfl, Nat.zero_le _, Nat.le_refl _, HT2, Rw.nil _ _ _ _, fun k h => by simp [Value.ownBlock] at h, B2, X2⟩
  case round =>
    clear X2 B2 HT2
    obtain ⟨k, L, F, rfl, hk, hl, T, R, HAP, hb, X⟩ := hrel
    have hX := lt_of_block X.out
    obtain ⟨Ao, co, rfl, hlc, hco, _, _⟩ := R.out.shape
    by_cases hlt : k < m
    · obtain ⟨b, off, rfl, hbw, hcs⟩ := HA.out (by omega)
      obtain ⟨c0, c1⟩ := hcs k (by omega)
      obtain ⟨x, hx⟩ : ∃ x, x = ge xs k := ⟨_, rfl⟩
      rw [← hx] at c0 c1
      have c0' := keep_cell hb c0
      have c1' := keep_cell hb c1
      have HSR := hid_mk T.out.srt
      have RA := hid_mk (R.out.below (balloc (.cells #[.string x.key, .int .i64 x.id] 28)))
      have YX := hid_mk (heap_alloc_new wr (.cells #[.string x.key, .int .i64 x.id] 28))
      clear hcs c0 c1 hx
      go_wp2_with fail
      refine (with_any w.heap.size L _ x true _ RA.out HSR.out (by omega)).mono ?_
      rintro r w4 ⟨u, rfl, R4, b4⟩
      rw [with_true, withL_true] at *
      obtain ⟨z, hz⟩ : ∃ z, z = decide (x ∉ L) := ⟨_, rfl⟩
      rw [← hz]
      have hzz := nb_self z
      have HZ := hid_mk hz
      have bb := bthen (balloc (.cells #[.string x.key, .int .i64 x.id] 28)) b4
      have T4 := hid_mk (T.out.below bb)
      have X4 := hid_mk (below_block bb hX X.out)
      have Y4 := below_block b4 (lt_of_block YX.out) YX.out
      have f0 := (cell_of_row w4 _ 0 _ _ _ Y4).trans rfl
      have f1 := (cell_of_row w4 _ 1 _ _ _ Y4).trans rfl
      have hs4 : wr.heap.size + 1 ≤ w4.heap.size := by have := b4.size; simpa using this
      have hbs := hb.size
      have R4' := hid_mk (R4.base (show w.heap.size ≤ _ by simp; omega))
      have AP4 : Hid (Apart u F) := hid_mk fun j hj hf => by
        have h1 := (R4.lt j hj).1
        have h2 := (T.out.foot j hf).2
        simp at h1
        omega
      have hb4 := hb.trans (bb.mono hbs)
      obtain ⟨A4, c4, rfl, _, _, _, _⟩ := R4.shape
      have haL := add_le (e := x) HSR.out
      clear c0' c1' hz R4 b4 bb Y4 R RA YX T X HAP hb
      go_wp2_with fail
      refine (tadd_any w1.heap.size p L F x _ T4.out (by omega)).mono ?_
      rintro r w5 ⟨rfl, F', T5, m5⟩
      rw [← HZ.out]
      have R5 := hid_mk (m5.rw_ R4'.out AP4.out)
      have AP5 : Hid (Apart (.slice A4 (add x L).length c4) F') := hid_mk fun j hj hf => by
        rcases m5.new j hf with h1 | h1
        · exact AP4.out j hj h1
        · have := (R4'.out.lt j hj).2; omega
      have X5 := hid_mk (m5.at_ X4.out fun hf => by have := (T4.out.foot _ hf).1; omega)
      have hb5 := hb4.trans ((T4.out.moved m5).mono (by omega))
      have T5' := hid_mk T5
      clear m5 T5 R4' AP4 X4 hb4 T4
      go_wp2_with fail
      exact ⟨⟨k + 1, add x L, F', by go_num, by omega, by omega, T5', R5, AP5, hb5, X5⟩, by simp [intOf]; omega⟩
    · obtain rfl : k = m := by omega
      have HSR := hid_mk T.out.srt
      have g0 := (cell_of_row wr _ 0 _ _ _ X.out).trans rfl
      have g1 := (cell_of_row wr _ 1 _ _ _ X.out).trans rfl
      have hbs := hb.size
      go_wp2_with fail
      refine (with_any w.heap.size L _ e false _ R.out HSR.out (by omega)).mono ?_
      rintro r w4 ⟨u, rfl, R4, b4⟩
      rw [with_false]
      obtain ⟨z, hz⟩ : ∃ z, z = decide (e ∈ L) := ⟨_, rfl⟩
      rw [← hz]
      have hzz := nb_self z
      have HZ := hid_mk hz
      have T4 := hid_mk (T.out.below b4)
      have R5 := hid_mk (R.out.below b4)
      have f0 := keep_cell b4 g0
      have f1 := keep_cell b4 g1
      have hb4 := hb.trans (b4.mono hbs)
      clear hz R4 T R g0 g1 hb X HAP HA
      go_wp2_with fail
      refine (has_any w1.heap.size p L F e _ T4.out).mono ?_
      rintro r w5 ⟨rfl, b5⟩
      rw [← HZ.out]
      have T5 := hid_mk (T4.out.below b5)
      have R6 := hid_mk (R5.out.below b5)
      have hb5 := hb4.trans (b5.mono hb4.size)
      clear b4 b5 f0 f1 T4 R5 hb4
      go_wp2_with fail
      refine (all_any w1.heap.size p L F _ T5.out (by omega)).mono ?_
      rintro r w6 ⟨v6, rfl, R7, b6⟩
      have T6 := hid_mk (T5.out.below b6)
      have R8 := hid_mk (R6.out.below b6)
      have HR7 := hid_mk R7
      have hb6 := hb5.trans (b6.mono hb5.size)
      clear R7 b6 T5 R6 hb5
      go_wp2_with fail
      refine (same_true L _ _ v6 _ _ HR7.out R8.out).mono ?_
      rintro r w7 ⟨rfl, b7⟩
      have T7 := hid_mk (T6.out.below b7)
      have R9 := R8.out.below b7
      have hb7 := hb6.trans (b7.mono hb6.size)
      obtain ⟨A9, c9, he, _, _, hx9⟩ := rw_ents R9
      injection he with q1 q2 q3
      subst q1 q3
      have HX9 := hid_mk hx9
      clear hx9 R9 b7 T6 R8 HR7 hb6 q2
      go_wp2_with fail
      go_loopw [13] (fun iv wr => ∃ j : Nat, iv = .int .i64 j ∧ j ≤ L.length ∧ Below w7.heap.size w7 wr) (fun iv _ => (intOf iv).toNat)
      case atStart => exact ⟨L.length, rfl, Nat.le_refl _, Below.refl _ _⟩
      case round =>
        rename_i wq _
        obtain ⟨j, rfl, hj, hbj⟩ := hrel
        have hbq := hb7.trans (hbj.mono hb7.size)
        by_cases hj0 : j = 0
        · subst hj0
          go_wp2_with fail
          go_ret
          exact ⟨rfl, hbq⟩
        · obtain ⟨I, hI⟩ : ∃ I, j = I + 1 := ⟨j - 1, by omega⟩
          have hs1 : IntKind.i64.wrap ((j : Int) - 1) = (I : Int) := by rw [IntKind.wrap_i64]; omega
          have hjp : (0 : Int) < (j : Int) := by omega
          have i0 : (0 : Int) ≤ (I : Int) := by omega
          have i1 : (I : Int) < (L.length : Int) := by omega
          obtain ⟨g, rfl, hg, hcs⟩ := HX9.out (by omega)
          have d0 := keep_cell hbj (hcs I (by omega)).1
          have d1 := keep_cell hbj (hcs I (by omega)).2
          obtain ⟨y, hy⟩ : ∃ y, y = ge L I := ⟨_, rfl⟩
          rw [← hy] at d0 d1
          have HST := below_get HSR.out I (by omega)
          rw [← hy] at HST
          have HST' := hid_mk HST
          have TJ := hid_mk (T7.out.below hbj)
          have HI := hid_mk hI
          have hIL : I < L.length := by omega
          have HC := hid_mk hcs
          clear hI hj0 hy HST hcs
          go_wp2_with fail
          refine (before_any w1.heap.size p L F y _ TJ.out).mono ?_
          rintro r w8 ⟨rfl, b8⟩
          rw [HST'.out]
          have hb8 := hbj.trans (b8.mono hbj.size)
          have d0' := keep_cell b8 d0
          have d1' := keep_cell b8 d1
          rcases I with _ | K
          · have hj1 : ¬ (1 : Int) < (j : Int) := by have := HI.out; omega
            rw [List.take_zero, tl_nil]
            have hj9 : j = 1 := HI.out
            subst hj9
            clear d0 d1 b8 d0' d1' hs1 hjp i0 i1 hj1
            go_wp2_with fail
            go_quiet (fail)
            go_wp2_with fail
            exact ⟨⟨0, by go_num, by omega, pw_below (hb8.alloc (by have := hb8.size; omega) _)⟩, by simp [intOf]⟩
          · have hj1 : (1 : Int) < (j : Int) := by have := HI.out; omega
            have hs2 : IntKind.i64.wrap ((j : Int) - 2) = (K : Int) := by have := HI.out; rw [IntKind.wrap_i64]; omega
            rw [tl_take L K (by omega)]
            have k0 : (0 : Int) ≤ (K : Int) := by omega
            have k1 : (K : Int) < (L.length : Int) := by omega
            have h0 := keep_cell hb8 (HC.out K (by omega)).1
            have h1 := keep_cell hb8 (HC.out K (by omega)).2
            obtain ⟨x, hx⟩ : ∃ x, x = ge L K := ⟨_, rfl⟩
            rw [← hx] at h0 h1 ⊢
            have m0 := World.new_ne w8 ⟨g, K * 2, none⟩ h0
            have m1 := World.new_ne w8 ⟨g, K * 2 + 1, none⟩ h1
            have n0 := keep_cell (balloc (.cells #[.string x.key, .int .i64 x.id] 28)) h0
            have n1 := keep_cell (balloc (.cells #[.string x.key, .int .i64 x.id] 28)) h1
            clear d0 d1 b8 hx d0' d1'
            go_wp2_with fail
            go_quiet (fail)
            go_wp2_with fail
            exact ⟨⟨K + 1, by go_num, by omega, pw_below (hb8.alloc (by have := hb8.size; omega) _)⟩, by have h9 := HI.out; first | (simp [intOf]; done) | (simp [intOf]; omega)⟩

end Go.Proofs.Ytfkhbppkdapkcaa
