/- Values held against one another: the whole. -/
import Derived.Test.YtmeebjjdceokeaaDoorCmp
namespace Go.Proofs.YtmeebjjdceokeaaDoor
open Go.RowKit
set_option linter.unusedVariables false
attribute [local go_sem ↓] Go.wp_at_zero Go.wp_at_succ

def Fv.agg (p : Fv) : Value := .agg #[.string p.1, .int .i64 p.2.k, .int .i64 p.2.i, .string p.2.t, p.2.l.v, p.2.f.v]
def FldSaid (d : Nat) : Prop := ∀ (a b : ByteArray × V) (ra rb : Fv) (w : World), a.1 = ra.1 → b.1 = rb.1 → RdW d w a.2 ra.2 → RdW d w b.2 rb.2 → Calls Tryd.prog 30 #[Fv.agg ra, Fv.agg rb] w fun e w' => e = .returned (.int .i64 (cmpF (cmpV d) a b)) ∧ Below w.heap.size w w'

set_option maxHeartbeats 2000000 in
set_option maxRecDepth 100000 in
theorem byfield_any (d : Nat) (IH : CmpSaid d) : FldSaid d := by
  intro a b ra rb w hn hn2 ha hb
  obtain ⟨an, rk, ri, rt, ⟨la, ln, lc⟩, ⟨fa, fn, fc⟩⟩ := ra
  obtain ⟨bn, rk2, ri2, rt2, ⟨la2, ln2, lc2⟩, ⟨fa2, fn2, fc2⟩⟩ := rb
  obtain ⟨a1, av⟩ := a
  obtain ⟨b1, bv⟩ := b
  simp only at hn hn2 ha hb
  subst hn hn2
  have HIH := hid_mk IH
  obtain ⟨W, hW⟩ : ∃ W, W = (w.alloc (.cells #[.string a1, .int .i64 rk, .int .i64 ri, .string rt, .slice la ln lc, .slice fa fn fc] 31)).alloc (.cells #[.string b1, .int .i64 rk2, .int .i64 ri2, .string rt2, .slice la2 ln2 lc2, .slice fa2 fn2 fc2] 31) := ⟨_, rfl⟩
  have bW : Below w.heap.size w W := by rw [hW]; exact bthen (balloc _) (balloc _)
  have HA := hid_mk (ha.below bW)
  have HB := hid_mk (hb.below bW)
  have Y0 : W.heap[w.heap.size]? = some (.cells #[.string a1, .int .i64 rk, .int .i64 ri, .string rt, .slice la ln lc, .slice fa fn fc] 31) := by
    rw [hW]; exact below_block (balloc _) (by simp) (heap_alloc_new w _)
  have Y1 : W.heap[w.heap.size + 1]? = some (.cells #[.string b1, .int .i64 rk2, .int .i64 ri2, .string rt2, .slice la2 ln2 lc2, .slice fa2 fn2 fc2] 31) := by
    have h := heap_alloc_new (w.alloc (.cells #[.string a1, .int .i64 rk, .int .i64 ri, .string rt, .slice la ln lc, .slice fa fn fc] 31)) (.cells #[.string b1, .int .i64 rk2, .int .i64 ri2, .string rt2, .slice la2 ln2 lc2, .slice fa2 fn2 fc2] 31)
    rw [hW]
    have e : (w.alloc (.cells #[.string a1, .int .i64 rk, .int .i64 ri, .string rt, .slice la ln lc, .slice fa fn fc] 31)).heap.size = w.heap.size + 1 := by simp
    rw [e] at h
    exact h
  have HS : ∀ w', Below W.heap.size W w' → (Below W.heap.size W w' ∧
      (w'.cell? ⟨w.heap.size, 0, none⟩ = some (.string a1) ∧ w'.cell? ⟨w.heap.size, 1, none⟩ = some (.int .i64 rk) ∧ w'.cell? ⟨w.heap.size, 2, none⟩ = some (.int .i64 ri) ∧ w'.cell? ⟨w.heap.size, 3, none⟩ = some (.string rt) ∧ w'.cell? ⟨w.heap.size, 4, none⟩ = some (.slice la ln lc) ∧ w'.cell? ⟨w.heap.size, 5, none⟩ = some (.slice fa fn fc)) ∧
      w'.cell? ⟨w.heap.size + 1, 0, none⟩ = some (.string b1) ∧ w'.cell? ⟨w.heap.size + 1, 1, none⟩ = some (.int .i64 rk2) ∧ w'.cell? ⟨w.heap.size + 1, 2, none⟩ = some (.int .i64 ri2) ∧ w'.cell? ⟨w.heap.size + 1, 3, none⟩ = some (.string rt2) ∧ w'.cell? ⟨w.heap.size + 1, 4, none⟩ = some (.slice la2 ln2 lc2) ∧ w'.cell? ⟨w.heap.size + 1, 5, none⟩ = some (.slice fa2 fn2 fc2)) := by
    intro w' h
    have Z0 := below_block h (lt_of_block Y0) Y0
    have Z1 := below_block h (lt_of_block Y1) Y1
    exact ⟨h, ⟨(cell_of_row _ _ 0 _ _ _ Z0).trans rfl, (cell_of_row _ _ 1 _ _ _ Z0).trans rfl, (cell_of_row _ _ 2 _ _ _ Z0).trans rfl, (cell_of_row _ _ 3 _ _ _ Z0).trans rfl, (cell_of_row _ _ 4 _ _ _ Z0).trans rfl, (cell_of_row _ _ 5 _ _ _ Z0).trans rfl⟩,
      (cell_of_row _ _ 0 _ _ _ Z1).trans rfl, (cell_of_row _ _ 1 _ _ _ Z1).trans rfl, (cell_of_row _ _ 2 _ _ _ Z1).trans rfl, (cell_of_row _ _ 3 _ _ _ Z1).trans rfl, (cell_of_row _ _ 4 _ _ _ Z1).trans rfl, (cell_of_row _ _ 5 _ _ _ Z1).trans rfl⟩
  have HSH := hid_mk HS
  have B0 : Below W.heap.size W W.drew := pw_below (n := 1) (Below.refl _ _)
  simp only [Fv.agg, Sl.v]
  clear IH ha hb Y0 Y1 HS
  go_enter Tryd.func30, Tryd.ntmps30
  go_wp2_with fail
  rw [← hW]
  clear hW
  go_region_held3 (fun w' => Below W.heap.size W w' ∧
      (w'.cell? ⟨w.heap.size, 0, none⟩ = some (.string a1) ∧ w'.cell? ⟨w.heap.size, 1, none⟩ = some (.int .i64 rk) ∧ w'.cell? ⟨w.heap.size, 2, none⟩ = some (.int .i64 ri) ∧ w'.cell? ⟨w.heap.size, 3, none⟩ = some (.string rt) ∧ w'.cell? ⟨w.heap.size, 4, none⟩ = some (.slice la ln lc) ∧ w'.cell? ⟨w.heap.size, 5, none⟩ = some (.slice fa fn fc)) ∧
      w'.cell? ⟨w.heap.size + 1, 0, none⟩ = some (.string b1) ∧ w'.cell? ⟨w.heap.size + 1, 1, none⟩ = some (.int .i64 rk2) ∧ w'.cell? ⟨w.heap.size + 1, 2, none⟩ = some (.int .i64 ri2) ∧ w'.cell? ⟨w.heap.size + 1, 3, none⟩ = some (.string rt2) ∧ w'.cell? ⟨w.heap.size + 1, 4, none⟩ = some (.slice la2 ln2 lc2) ∧ w'.cell? ⟨w.heap.size + 1, 5, none⟩ = some (.slice fa2 fn2 fc2)) ((refine HSH.out _ ?_; first | assumption | exact Below.alloc (by assumption) (Below.size (by assumption)) _))
    ((first | (go_at_call 27; refine (strcmp_any _ _ _).mono ?_; rintro e w' ⟨rfl, rfl⟩) | (go_at_call 13; refine (HIH.out av bv ⟨rk, ri, rt, ⟨la, ln, lc⟩, ⟨fa, fn, fc⟩⟩ ⟨rk2, ri2, rt2, ⟨la2, ln2, lc2⟩, ⟨fa2, fn2, fc2⟩⟩ _ (HA.out.below (by assumption)) (HB.out.below (by assumption))).mono ?_; rintro e w' ⟨rfl, b9⟩; have b8 := bthen (by assumption) b9; clear b9) | (go_at_call 46; refine (cmpor_any (cb a1.data.toList b1.data.toList) (cmpV d av bv) _ _ (by go_simp) (by go_simp)).mono ?_; rintro e w' ⟨rfl, rfl⟩)))
  go_wp2_with fail
  go_ret
  exact ⟨rfl, bthen bW (by first | assumption | exact Below.alloc (by assumption) (Below.size (by assumption)) _)⟩

set_option maxHeartbeats 2000000 in
set_option maxRecDepth 100000 in
theorem compfld_any (d : Nat) (IH : FldSaid d) (la lb : List (ByteArray × V)) (s t : Sl) (w : World) (ha : RowF d w la s) (hb : RowF d w lb t) :
    Calls Tryd.prog 29 #[s.v, t.v, .func (.func 30) #[] #[]] w fun e w' => e = .returned (.int .i64 (cmpL (cmpF (cmpV d)) la lb)) ∧ Below w.heap.size w w' := by
  obtain ⟨sa, sn, sc⟩ := s
  obtain ⟨ta, tn, tc⟩ := t
  obtain ⟨e1, q1, q2, HA⟩ := ha.at_
  obtain ⟨e2, q3, q4, HB⟩ := hb.at_
  simp only at e1 e2 q1 q2 q3 q4 HA HB
  subst e1 e2
  have HIH := hid_mk IH
  have HHA := hid_mk HA
  have HHB := hid_mk HB
  simp only [Sl.v]
  clear IH HA HB ha hb
  go_enter Tryd.func29, Tryd.ntmps29
  go_wp2_with fail
  go_loopw [13] (fun iv wr => ∃ k : Nat, iv = .int .i64 k ∧ k ≤ la.length ∧ k ≤ lb.length ∧ Hid (cmpL (cmpF (cmpV d)) la lb = cmpL (cmpF (cmpV d)) (la.drop k) (lb.drop k)) ∧ Below w.heap.size w wr) (fun iv _ => la.length - (intOf iv).toNat)
  case atStart => exact ⟨0, rfl, Nat.zero_le _, Nat.zero_le _, rfl, Below.refl _ _⟩
  case round =>
    obtain ⟨k, rfl, hk, hk2, HC, hb⟩ := hrel
    by_cases hlt : k < la.length
    · obtain ⟨g, rfl, hg, hcc⟩ := HHA.out (by omega)
      obtain ⟨r, hn, hr, c0, c1, c2, c3, c4, c5⟩ := hcc k hlt
      obtain ⟨rn, rk, ri, rt, ⟨la', ln, lc⟩, ⟨fa, fn, fc⟩⟩ := r
      have HN := hid_mk hn
      simp only [Sl.v] at c0 c1 c2 c3 c4 c5
      have c0' := keep_cell hb c0
      have c1' := keep_cell hb c1
      have c2' := keep_cell hb c2
      have c3' := keep_cell hb c3
      have c4' := keep_cell hb c4
      have c5' := keep_cell hb c5
      have k0 : (0 : Int) ≤ (k : Int) := by omega
      have k1 : (k : Int) < (la.length : Int) := by omega
      clear hcc c0 c1 c2 c3 c4 c5 hn
      by_cases hlt2 : k < lb.length
      · obtain ⟨g2, rfl, hg2, hcc⟩ := HHB.out (by omega)
        obtain ⟨r2, hn2, hr2, c0, c1, c2, c3, c4, c5⟩ := hcc k hlt2
        obtain ⟨rn2, rk2, ri2, rt2, ⟨la2, ln2, lc2⟩, ⟨fa2, fn2, fc2⟩⟩ := r2
        have HN2 := hid_mk hn2
        simp only [Sl.v] at c0 c1 c2 c3 c4 c5
        have bz := balloc (w := wr) (.cells #[.string rn, .int .i64 rk, .int .i64 ri, .string rt, .slice la' ln lc, .slice fa fn fc] 31)
        have hbz := hb.trans (bz.mono hb.size)
        have d0 := keep_cell hbz c0
        have d1 := keep_cell hbz c1
        have d2 := keep_cell hbz c2
        have d3 := keep_cell hbz c3
        have d4 := keep_cell hbz c4
        have d5 := keep_cell hbz c5
        have k2 : (k : Int) < (lb.length : Int) := by omega
        have bz2 := balloc (w := wr.alloc (.cells #[.string rn, .int .i64 rk, .int .i64 ri, .string rt, .slice la' ln lc, .slice fa fn fc] 31)) (.cells #[.string rn2, .int .i64 rk2, .int .i64 ri2, .string rt2, .slice la2 ln2 lc2, .slice fa2 fn2 fc2] 31)
        have hbz2 := hbz.trans (bz2.mono hbz.size)
        have HR1 := hid_mk (hr.below hbz2)
        have HR2 := hid_mk (hr2.below hbz2)
        have HST := hid_mk (cmpL_step (cmpF (cmpV d)) la lb k hlt hlt2)
        have Yb := below_block bz2 (by simp) (heap_alloc_new wr (.cells #[.string rn, .int .i64 rk, .int .i64 ri, .string rt, .slice la' ln lc, .slice fa fn fc] 31))
        have x0 := (cell_of_row _ _ 0 _ _ _ Yb).trans rfl
        have x1 := (cell_of_row _ _ 1 _ _ _ Yb).trans rfl
        have x2 := (cell_of_row _ _ 2 _ _ _ Yb).trans rfl
        have x3 := (cell_of_row _ _ 3 _ _ _ Yb).trans rfl
        have x4 := (cell_of_row _ _ 4 _ _ _ Yb).trans rfl
        have x5 := (cell_of_row _ _ 5 _ _ _ Yb).trans rfl
        clear hcc c0 c1 c2 c3 c4 c5 hn2 hr hr2 bz bz2 hbz Yb
        go_wp2_with fail
        refine (HIH.out la[k] lb[k] (rn, ⟨rk, ri, rt, ⟨la', ln, lc⟩, ⟨fa, fn, fc⟩⟩) (rn2, ⟨rk2, ri2, rt2, ⟨la2, ln2, lc2⟩, ⟨fa2, fn2, fc2⟩⟩) _ HN.out HN2.out HR1.out HR2.out).mono ?_
        rintro e w4 ⟨rfl, b4⟩
        have hb4 := hbz2.trans (b4.mono hbz2.size)
        obtain ⟨c, hc⟩ : ∃ c, c = cmpF (cmpV d) la[k] lb[k] := ⟨_, rfl⟩
        rw [← hc]
        rw [← hc] at HST
        clear hc HR1 HR2 b4 hbz2
        by_cases hz : c = 0
        · have hq : (c != 0) = false := by simp [hz]
          have HZ : Hid (cmpL (cmpF (cmpV d)) la lb = cmpL (cmpF (cmpV d)) (la.drop (k + 1)) (lb.drop (k + 1))) := hid_mk (by rw [HC.out, HST.out, if_pos hz])
          clear hz HC HST
          go_wp2_with fail
          exact ⟨⟨k + 1, by go_num, by omega, by omega, HZ, hb4⟩, by simp [intOf]; omega⟩
        · have hq : (c != 0) = true := by simpa using hz
          have HZ : Hid (cmpL (cmpF (cmpV d)) la lb = c) := hid_mk (by rw [HC.out, HST.out, if_neg hz])
          clear hz HC HST
          go_wp2_with fail
          go_ret
          exact ⟨ret_int HZ.out.symm, hb4⟩
      · have hge : (lb.length : Int) ≤ (k : Int) := by omega
        have HZ : Hid (cmpL (cmpF (cmpV d)) la lb = 1) := hid_mk (by
          rw [HC.out, List.drop_eq_nil_of_le (show lb.length ≤ k by omega)]
          exact cmpL_end2 _ _ (by rw [List.length_drop]; omega))
        clear HC hr
        go_wp2_with fail
        go_ret
        exact ⟨ret_int HZ.out.symm, hb.trans ((balloc (w := wr) _).mono hb.size)⟩
    · obtain rfl : k = la.length := by omega
      have HZ : Hid (cmpL (cmpF (cmpV d)) la lb = if la.length < lb.length then -1 else 0) := hid_mk (by
        rw [HC.out, List.drop_length, cmpL_end1, List.length_drop]
        by_cases h : la.length < lb.length
        · rw [if_pos h, if_pos (by omega)]
        · rw [if_neg h, if_neg (by omega)])
      clear HC
      by_cases h : la.length < lb.length
      · rw [if_pos h] at HZ
        have hI : (la.length : Int) < (lb.length : Int) := by omega
        go_wp2_with fail
        go_ret
        exact ⟨ret_int HZ.out.symm, hb⟩
      · rw [if_neg h] at HZ
        have hI : ¬ (la.length : Int) < (lb.length : Int) := by omega
        go_wp2_with fail
        go_ret
        exact ⟨ret_int HZ.out.symm, hb⟩

set_option maxHeartbeats 2000000 in
set_option maxRecDepth 100000 in
theorem cmp_step (d : Nat) (IH : CmpSaid d) : CmpSaid (d + 1) := by
  intro a b ra rb w ha hb
  have HIH := hid_mk IH
  have HFH := hid_mk (byfield_any d IH)
  obtain ⟨W, hW⟩ : ∃ W, W = (w.alloc (.cells ra.cs.toArray 28)).alloc (.cells rb.cs.toArray 28) := ⟨_, rfl⟩
  have bW : Below w.heap.size w W := by rw [hW]; exact bthen (balloc _) (balloc _)
  obtain ⟨p1, p2, p3, p4, p5⟩ := ha.rows
  obtain ⟨q1, q2, q3, q4, q5⟩ := hb.rows
  have HP4 := hid_mk (p4.below bW)
  have HP5 := hid_mk (p5.below bW)
  have HQ4 := hid_mk (q4.below bW)
  have HQ5 := hid_mk (q5.below bW)
  have HC : Hid (cmpV (d + 1) a b = if ra.k = rb.k then
      if ra.k = 1 ∨ ra.k = 2 then sgn ra.i rb.i else if ra.k = 3 then cb ra.t.data.toList rb.t.data.toList
      else if ra.k = 4 then cmpL (cmpV d) a.l b.l else if ra.k = 5 then cmpL (cmpF (cmpV d)) a.f b.f else 0
    else sgn ra.k rb.k) := hid_mk (by rw [p1, p2, p3, q1, q2, q3]; rfl)
  clear p1 p2 p3 p4 p5 q1 q2 q3 q4 q5 ha hb IH
  obtain ⟨rk, ri, rt, ⟨la, ln, lc⟩, ⟨fa, fn, fc⟩⟩ := ra
  obtain ⟨rk2, ri2, rt2, ⟨la2, ln2, lc2⟩, ⟨fa2, fn2, fc2⟩⟩ := rb
  simp only [Rv.agg, Rv.cs, Sl.v] at *
  have BW := hid_mk bW
  by_cases hk : rk = rk2
  · subst hk
    rw [if_pos rfl] at HC
    have qk : (rk != rk) = false := by simp
    by_cases h1 : rk = 1
    · subst h1
      rw [if_pos (.inl rfl)] at HC
      go_enter Tryd.func13, Tryd.ntmps13
      go_wp2_with (go_at_call 26; refine (cmpint_any _ _ _).mono ?_; rintro e w' ⟨rfl, rfl⟩)
      go_ret
      exact ⟨ret_int HC.out.symm, by rw [← hW]; exact BW.out⟩
    · by_cases h2 : rk = 2
      · subst h2
        rw [if_pos (.inr rfl)] at HC
        go_enter Tryd.func13, Tryd.ntmps13
        go_wp2_with (go_at_call 26; refine (cmpint_any _ _ _).mono ?_; rintro e w' ⟨rfl, rfl⟩)
        go_ret
        exact ⟨ret_int HC.out.symm, by rw [← hW]; exact BW.out⟩
      · have g1 : (rk == 1) = false := beq_eq_false_iff_ne.2 h1
        have g2 : (rk == 2) = false := beq_eq_false_iff_ne.2 h2
        rw [if_neg (fun h => h.elim h1 h2)] at HC
        by_cases h3 : rk = 3
        · subst h3
          rw [if_pos rfl] at HC
          clear g1 g2 h1 h2
          go_enter Tryd.func13, Tryd.ntmps13
          go_wp2_with (go_at_call 27; refine (strcmp_any _ _ _).mono ?_; rintro e w' ⟨rfl, rfl⟩)
          go_ret
          exact ⟨ret_int HC.out.symm, by rw [← hW]; exact BW.out⟩
        · rw [if_neg h3] at HC
          have g3 : (rk == 3) = false := beq_eq_false_iff_ne.2 h3
          by_cases h4 : rk = 4
          · subst h4
            rw [if_pos rfl] at HC
            clear g1 g2 h1 h2 g3 h3
            go_enter Tryd.func13, Tryd.ntmps13
            go_wp2_with fail
            rw [← hW]
            clear hW
            refine (complist_any d HIH.out a.l b.l ⟨la, ln, lc⟩ ⟨la2, ln2, lc2⟩ _ HP4.out HQ4.out).mono ?_
            rintro e w4 ⟨rfl, b4⟩
            go_wp2_with fail
            go_ret
            exact ⟨ret_int HC.out.symm, bthen BW.out b4⟩
          · rw [if_neg h4] at HC
            have g4 : (rk == 4) = false := beq_eq_false_iff_ne.2 h4
            by_cases h5 : rk = 5
            · subst h5
              rw [if_pos rfl] at HC
              clear g1 g2 h1 h2 g3 h3 g4 h4
              go_enter Tryd.func13, Tryd.ntmps13
              go_wp2_with fail
              rw [← hW]
              clear hW
              refine (compfld_any d HFH.out a.f b.f ⟨fa, fn, fc⟩ ⟨fa2, fn2, fc2⟩ _ HP5.out HQ5.out).mono ?_
              rintro e w4 ⟨rfl, b4⟩
              go_wp2_with fail
              go_ret
              exact ⟨ret_int HC.out.symm, bthen BW.out b4⟩
            · rw [if_neg h5] at HC
              have g5 : (rk == 5) = false := beq_eq_false_iff_ne.2 h5
              go_enter Tryd.func13, Tryd.ntmps13
              go_wp2_with fail
              go_ret
              exact ⟨ret_int HC.out.symm, by rw [← hW]; exact BW.out⟩
  · rw [if_neg hk] at HC
    have qk : (rk != rk2) = true := by simpa using hk
    go_enter Tryd.func13, Tryd.ntmps13
    go_wp2_with (go_at_call 25; refine (cmpkind_any _ _ _).mono ?_; rintro e w' ⟨rfl, rfl⟩)
    go_ret
    exact ⟨ret_int HC.out.symm, by rw [← hW]; exact BW.out⟩
theorem cmp_any : ∀ d, CmpSaid d
  | 0 => fun _ _ _ _ _ h => h.elim
  | d + 1 => cmp_step d (cmp_any d)
set_option maxHeartbeats 2000000 in
set_option maxRecDepth 100000 in
theorem same_any (d : Nat) (a b : V) (ra rb : Rv) (w : World) (ha : RdW d w a ra) (hb : RdW d w b rb) :
    Calls Tryd.prog 15 #[ra.agg, rb.agg] w fun e w' => e = .returned (.bool (cmpV d a b == 0)) ∧ Below w.heap.size w w' := by
  obtain ⟨W, hW⟩ : ∃ W, W = (w.alloc (.cells ra.cs.toArray 28)).alloc (.cells rb.cs.toArray 28) := ⟨_, rfl⟩
  have bW : Below w.heap.size w W := by rw [hW]; exact bthen (balloc _) (balloc _)
  have HA := hid_mk (ha.below bW)
  have HB := hid_mk (hb.below bW)
  clear ha hb
  obtain ⟨rk, ri, rt, ⟨la, ln, lc⟩, ⟨fa, fn, fc⟩⟩ := ra
  obtain ⟨rk2, ri2, rt2, ⟨la2, ln2, lc2⟩, ⟨fa2, fn2, fc2⟩⟩ := rb
  simp only [Rv.agg, Rv.cs, Sl.v] at *
  have BW := hid_mk bW
  go_enter Tryd.func15, Tryd.ntmps15
  go_wp2_with fail
  rw [← hW]
  clear hW
  refine (cmp_any d a b ⟨rk, ri, rt, ⟨la, ln, lc⟩, ⟨fa, fn, fc⟩⟩ ⟨rk2, ri2, rt2, ⟨la2, ln2, lc2⟩, ⟨fa2, fn2, fc2⟩⟩ _ HA.out HB.out).mono ?_
  rintro e w4 ⟨rfl, b4⟩
  go_wp2_with fail
  go_ret
  exact ⟨rfl, bthen BW.out b4⟩

end Go.Proofs.YtmeebjjdceokeaaDoor
