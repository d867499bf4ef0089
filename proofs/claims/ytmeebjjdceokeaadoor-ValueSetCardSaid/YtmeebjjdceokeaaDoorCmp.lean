/- Values held against one another. -/
import Derived.Test.YtmeebjjdceokeaaDoorVal
import Derived.Laws.Externs
import Derived.Deep.LoopGhost
namespace Go.Proofs.YtmeebjjdceokeaaDoor
open Go.RowKit
set_option linter.unusedVariables false
attribute [local go_sem ↓] Go.wp_at_zero Go.wp_at_succ

theorem cmpstr_in (a b : ByteArray) (w : World) :
    Calls Tryd.prog 45 #[.string a, .string b] w fun e w' => e = .returned (.int .i64 (cb a.data.toList b.data.toList)) ∧ w = w' := by
  have hov : (callFunc 51 #[.string a, .string b]).run Tryd.prog w = .ok (.value (.int .i64 (cb a.data.toList b.data.toList))) w := by
    rw [run_callFunc_extern Tryd.func51 (by kernel_rfl) (by kernel_rfl) (by kernel_rfl) (e := Extern.BytealgCompare.compare) (by kernel_rfl), Lib.run_compareString]
    rfl
  go_enter Tryd.func45, Tryd.ntmps45
  go_wp2_with (simp only [hov])
  go_ret
  exact ⟨rfl, rfl⟩
theorem strcmp_any (a b : ByteArray) (w : World) :
    Calls Tryd.prog 27 #[.string a, .string b] w fun e w' => e = .returned (.int .i64 (cb a.data.toList b.data.toList)) ∧ w = w' := by
  go_enter Tryd.func27, Tryd.ntmps27
  go_wp2_with (go_at_call 45; refine (cmpstr_in _ _ _).mono ?_; rintro e w' ⟨rfl, rfl⟩)
  go_ret
  exact ⟨rfl, rfl⟩
theorem isnank_any (x : Int) (w : World) : Calls Tryd.prog 43 #[.int .i64 x] w fun e w' => e = .returned (.bool false) ∧ w = w' := by
  have q : (x != x) = false := by simp
  go_enter Tryd.func43, Tryd.ntmps43
  go_wp2_with fail
  go_ret
  exact ⟨by simp, rfl⟩
theorem cmpkind_any (x y : Int) (w : World) : Calls Tryd.prog 25 #[.int .i64 x, .int .i64 y] w fun e w' => e = .returned (.int .i64 (sgn x y)) ∧ w = w' := by
  by_cases h1 : x < y
  · have hs : Hid (sgn x y = -1) := if_pos h1
    go_enter Tryd.func25, Tryd.ntmps25
    go_wp2_with (go_at_call 43; refine (isnank_any _ _).mono ?_; rintro e w' ⟨rfl, rfl⟩)
    go_ret
    exact ⟨ret_int hs.out.symm, rfl⟩
  · by_cases h2 : y < x
    · have hs : Hid (sgn x y = 1) := (if_neg h1).trans (if_pos h2)
      go_enter Tryd.func25, Tryd.ntmps25
      go_wp2_with (go_at_call 43; refine (isnank_any _ _).mono ?_; rintro e w' ⟨rfl, rfl⟩)
      go_ret
      exact ⟨ret_int hs.out.symm, rfl⟩
    · have hs : Hid (sgn x y = 0) := (if_neg h1).trans (if_neg h2)
      go_enter Tryd.func25, Tryd.ntmps25
      go_wp2_with (go_at_call 43; refine (isnank_any _ _).mono ?_; rintro e w' ⟨rfl, rfl⟩)
      go_ret
      exact ⟨ret_int hs.out.symm, rfl⟩
def orI (x y : Int) : Int := if x = 0 then y else x
theorem orI_ne {x y : Int} (h : ¬ x = 0) : orI x y = x := if_neg h
theorem orI_zero {x y : Int} (h : x = 0) : orI x y = y := if_pos h
theorem cmpor_any (x y : Int) (b : Nat) (w : World) (h0 : w.cell? ⟨b, 0, none⟩ = some (.int .i64 x)) (h1 : w.cell? ⟨b, 1, none⟩ = some (.int .i64 y)) :
    Calls Tryd.prog 46 #[.slice (some ⟨b, 0, none⟩) 2 2] w fun e w' => e = .returned (.int .i64 (orI x y)) ∧ w = w' := by
  go_enter Tryd.func46, Tryd.ntmps46
  go_wp2_with fail
  go_loop [8] (fun i => ∃ k : Nat, i = .int .i64 k ∧ k ≤ 2 ∧ Hid (0 < k → x = 0) ∧ Hid (1 < k → y = 0)) (fun i => 2 - (intOf i).toNat)
  case atStart => exact ⟨0, rfl, by omega, fun h => by omega, fun h => by omega⟩
  case round =>
    obtain ⟨k, rfl, hk, H1, H2⟩ := hrel
    have hk3 : k = 0 ∨ k = 1 ∨ k = 2 := by omega
    rcases hk3 with rfl | rfl | rfl
    · by_cases hx : x = 0
      · have q : (x != 0) = false := by simp [hx]
        have HX := hid_mk hx
        clear hx
        go_wp2_with fail
        exact ⟨⟨1, by go_num, by omega, fun _ => HX.out, fun h => by omega⟩, by simp [intOf]⟩
      · have q : (x != 0) = true := by simpa using hx
        go_wp2_with fail
        go_ret
        exact ⟨ret_int (orI_ne hx).symm, rfl⟩
    · by_cases hy : y = 0
      · have q : (y != 0) = false := by simp [hy]
        have HY := hid_mk hy
        clear hy
        go_wp2_with fail
        exact ⟨⟨2, by go_num, by omega, fun _ => H1.out (by omega), fun h => HY.out⟩, by simp [intOf]⟩
      · have q : (y != 0) = true := by simpa using hy
        go_wp2_with fail
        go_ret
        exact ⟨ret_int (orI_zero (H1.out (by omega))).symm, rfl⟩
    · go_wp2_with fail
      go_ret
      exact ⟨ret_int (by rw [orI_zero (H1.out (by omega)), H2.out (by omega)]), rfl⟩

/-! ### By definition -/
def cmpL {α : Type} (c : α → α → Int) : List α → List α → Int
  | [], [] => 0
  | [], _ :: _ => -1
  | _ :: _, [] => 1
  | x :: a, y :: b => if c x y = 0 then cmpL c a b else c x y
def cmpF (c : V → V → Int) (x y : ByteArray × V) : Int := orI (cb x.1.data.toList y.1.data.toList) (c x.2 y.2)
def cmpV : Nat → V → V → Int
  | 0, _, _ => 0
  | d + 1, a, b =>
    if a.k = b.k then
      if a.k = 1 ∨ a.k = 2 then sgn a.i b.i else if a.k = 3 then cb a.t.data.toList b.t.data.toList
      else if a.k = 4 then cmpL (cmpV d) a.l b.l else if a.k = 5 then cmpL (cmpF (cmpV d)) a.f b.f else 0
    else sgn a.k b.k

/-- A reading in a world as it stands. -/
def RdW (d : Nat) (w : World) (v : V) (r : Rv) : Prop := Rd (fun b => b < w.heap.size) d w v r
theorem RdW.below {d : Nat} {w w' : World} {v : V} {r : Rv} (h : RdW d w v r) (b : Below w.heap.size w w') : RdW d w' v r :=
  Rd.stays (fun k hk => Nat.lt_of_lt_of_le hk b.size) (fun k hk => b.block k hk) d v r h
def CmpSaid (d : Nat) : Prop := ∀ (a b : V) (ra rb : Rv) (w : World), RdW d w a ra → RdW d w b rb → Calls Tryd.prog 13 #[ra.agg, rb.agg] w fun e w' => e = .returned (.int .i64 (cmpV d a b)) ∧ Below w.heap.size w w'
/-- Rows of values, of fields, read. -/
def RowV (d : Nat) (w : World) (l : List V) (s : Sl) : Prop := ∃ rs, All2 (RdW d w) l rs ∧ Rw 0 w 28 5 s.v l.length (vcells rs)
def RowF (d : Nat) (w : World) (l : List (ByteArray × V)) (s : Sl) : Prop := ∃ rs, All2 (fun (x : ByteArray × V) (y : Fv) => x.1 = y.1 ∧ RdW d w x.2 y.2) l rs ∧ Rw 0 w 31 6 s.v l.length (fcells rs)
theorem RowV.below {d : Nat} {w w' : World} {l : List V} {s : Sl} (h : RowV d w l s) (b : Below w.heap.size w w') : RowV d w' l s := by
  obtain ⟨rs, h1, h2⟩ := h
  exact ⟨rs, h1.imp fun x y h => h.below b, h2.below b⟩
theorem RowF.below {d : Nat} {w w' : World} {l : List (ByteArray × V)} {s : Sl} (h : RowF d w l s) (b : Below w.heap.size w w') : RowF d w' l s := by
  obtain ⟨rs, h1, h2⟩ := h
  exact ⟨rs, h1.imp fun x y h => ⟨h.1, h.2.below b⟩, h2.below b⟩
theorem RdW.rows {d : Nat} {w : World} {v : V} {r : Rv} (h : RdW (d + 1) w v r) : r.k = v.k ∧ r.i = v.i ∧ r.t = v.t ∧ RowV d w v.l r.l ∧ RowF d w v.f r.f := by
  obtain ⟨h1, h2, h3, ⟨rs, a1, a2, a3⟩, ⟨qs, b1, b2, b3⟩⟩ := h
  exact ⟨h1, h2, h3, ⟨rs, a1, a2⟩, ⟨qs, b1, b2⟩⟩
structure Cells5 (w : World) (g o : Nat) (r : Rv) : Prop where
  c0 : w.cell? ⟨g, o, none⟩ = some (.int .i64 r.k)
  c1 : w.cell? ⟨g, o + 1, none⟩ = some (.int .i64 r.i)
  c2 : w.cell? ⟨g, o + 2, none⟩ = some (.string r.t)
  c3 : w.cell? ⟨g, o + 3, none⟩ = some r.l.v
  c4 : w.cell? ⟨g, o + 4, none⟩ = some r.f.v
structure CellsF (w : World) (g o : Nat) (r : Fv) : Prop where
  c0 : w.cell? ⟨g, o, none⟩ = some (.string r.1)
  c1 : w.cell? ⟨g, o + 1, none⟩ = some (.int .i64 r.2.k)
  c2 : w.cell? ⟨g, o + 2, none⟩ = some (.int .i64 r.2.i)
  c3 : w.cell? ⟨g, o + 3, none⟩ = some (.string r.2.t)
  c4 : w.cell? ⟨g, o + 4, none⟩ = some r.2.l.v
  c5 : w.cell? ⟨g, o + 5, none⟩ = some r.2.f.v
/-- The cells of a row of values, element by element. -/
theorem RowV.at_ {d : Nat} {w : World} {l : List V} {s : Sl} (h : RowV d w l s) : s.n = l.length ∧ l.length ≤ s.c ∧ s.c ≤ 9223372036854775807 ∧ (0 < l.length → ∃ g, s.a = some ⟨g, 0, none⟩ ∧ g < w.heap.size ∧ ∀ i (hi : i < l.length), ∃ r, RdW d w l[i] r ∧ Cells5 w g (i * 5) r) := by
  obtain ⟨rs, h1, h2⟩ := h
  obtain ⟨A, cap, hv, q1, q2, q3, q4⟩ := h2.shape
  injection hv with e1 e2 e3
  refine ⟨e2, by rw [e3]; exact q1, by rw [e3]; exact q2, fun h0 => ?_⟩
  rcases A with _ | a
  · have := (q3 rfl).1; omega
  · obtain ⟨g, rfl, _, hg, _, hc⟩ := q4 a rfl
    refine ⟨g, e1, hg, fun i hi => ?_⟩
    have hr : i < rs.length := by rw [← h1.length]; exact hi
    exact ⟨rs[i], h1.get i hi hr, hc _ _ (vcells_get rs i 0 _ hr rfl), hc _ _ (vcells_get rs i 1 _ hr rfl), hc _ _ (vcells_get rs i 2 _ hr rfl), hc _ _ (vcells_get rs i 3 _ hr rfl), hc _ _ (vcells_get rs i 4 _ hr rfl)⟩
theorem RowF.at_ {d : Nat} {w : World} {l : List (ByteArray × V)} {s : Sl} (h : RowF d w l s) : s.n = l.length ∧ l.length ≤ s.c ∧ s.c ≤ 9223372036854775807 ∧ (0 < l.length → ∃ g, s.a = some ⟨g, 0, none⟩ ∧ g < w.heap.size ∧ ∀ i (hi : i < l.length), ∃ r : Fv, l[i].1 = r.1 ∧ RdW d w l[i].2 r.2 ∧ CellsF w g (i * 6) r) := by
  obtain ⟨rs, h1, h2⟩ := h
  obtain ⟨A, cap, hv, q1, q2, q3, q4⟩ := h2.shape
  injection hv with e1 e2 e3
  refine ⟨e2, by rw [e3]; exact q1, by rw [e3]; exact q2, fun h0 => ?_⟩
  rcases A with _ | a
  · have := (q3 rfl).1; omega
  · obtain ⟨g, rfl, _, hg, _, hc⟩ := q4 a rfl
    refine ⟨g, e1, hg, fun i hi => ?_⟩
    have hr : i < rs.length := by rw [← h1.length]; exact hi
    obtain ⟨g1, g2⟩ := h1.get i hi hr
    exact ⟨rs[i], g1, g2, hc _ _ (fcells_get rs i 0 _ hr rfl), hc _ _ (fcells_get rs i 1 _ hr rfl), hc _ _ (fcells_get rs i 2 _ hr rfl), hc _ _ (fcells_get rs i 3 _ hr rfl), hc _ _ (fcells_get rs i 4 _ hr rfl), hc _ _ (fcells_get rs i 5 _ hr rfl)⟩
theorem cmpL_end1 {α : Type} (c : α → α → Int) (b : List α) : cmpL c [] b = if 0 < b.length then -1 else 0 := by cases b <;> rfl
theorem cmpL_end2 {α : Type} (c : α → α → Int) (a : List α) (h : 0 < a.length) : cmpL c a [] = 1 := by cases a with | nil => simp at h | cons => rfl
theorem cmpL_step {α : Type} (c : α → α → Int) (a b : List α) (k : Nat) (ha : k < a.length) (hb : k < b.length) : cmpL c (a.drop k) (b.drop k) = if c a[k] b[k] = 0 then cmpL c (a.drop (k + 1)) (b.drop (k + 1)) else c a[k] b[k] := by
  rw [List.drop_eq_getElem_cons ha, List.drop_eq_getElem_cons hb]; rfl

set_option maxHeartbeats 2000000 in
set_option maxRecDepth 100000 in
theorem complist_any (d : Nat) (IH : CmpSaid d) (la lb : List V) (s t : Sl) (w : World) (ha : RowV d w la s) (hb : RowV d w lb t) :
    Calls Tryd.prog 28 #[s.v, t.v, .func (.func 13) #[] #[]] w fun e w' => e = .returned (.int .i64 (cmpL (cmpV d) la lb)) ∧ Below w.heap.size w w' := by
  obtain ⟨sa, sn, sc⟩ := s
  obtain ⟨ta, tn, tc⟩ := t
  obtain ⟨e1, q1, q2, HA⟩ := ha.at_
  obtain ⟨e2, q3, q4, HB⟩ := hb.at_
  simp only at e1 e2 q1 q2 q3 q4 HA HB
  subst e1 e2
  have HIH := hid_mk IH
  have HHA := hid_mk HA
  have HHB := hid_mk HB
  simp only [Sl.v]
  clear IH HA HB ha hb
  go_enter Tryd.func28, Tryd.ntmps28
  go_wp2_with fail
  go_loopw [13] (fun iv wr => ∃ k : Nat, iv = .int .i64 k ∧ k ≤ la.length ∧ k ≤ lb.length ∧ Hid (cmpL (cmpV d) la lb = cmpL (cmpV d) (la.drop k) (lb.drop k)) ∧ Below w.heap.size w wr) (fun iv _ => la.length - (intOf iv).toNat)
  case atStart => exact ⟨0, rfl, Nat.zero_le _, Nat.zero_le _, rfl, Below.refl _ _⟩
  case round =>
    obtain ⟨k, rfl, hk, hk2, HC, hb⟩ := hrel
    by_cases hlt : k < la.length
    · obtain ⟨g, rfl, hg, hcc⟩ := HHA.out (by omega)
      obtain ⟨r, hr, c0, c1, c2, c3, c4⟩ := hcc k hlt
      obtain ⟨rk, ri, rt, ⟨la', ln, lc⟩, ⟨fa, fn, fc⟩⟩ := r
      simp only [Sl.v] at c0 c1 c2 c3 c4
      have c0' := keep_cell hb c0
      have c1' := keep_cell hb c1
      have c2' := keep_cell hb c2
      have c3' := keep_cell hb c3
      have c4' := keep_cell hb c4
      have k0 : (0 : Int) ≤ (k : Int) := by omega
      have k1 : (k : Int) < (la.length : Int) := by omega
      clear hcc c0 c1 c2 c3 c4
      by_cases hlt2 : k < lb.length
      · obtain ⟨g2, rfl, hg2, hcc⟩ := HHB.out (by omega)
        obtain ⟨r2, hr2, c0, c1, c2, c3, c4⟩ := hcc k hlt2
        obtain ⟨rk2, ri2, rt2, ⟨la2, ln2, lc2⟩, ⟨fa2, fn2, fc2⟩⟩ := r2
        simp only [Sl.v] at c0 c1 c2 c3 c4
        have bz := balloc (w := wr) (.cells #[.int .i64 rk, .int .i64 ri, .string rt, .slice la' ln lc, .slice fa fn fc] 28)
        have hbz := hb.trans (bz.mono hb.size)
        have d0 := keep_cell hbz c0
        have d1 := keep_cell hbz c1
        have d2 := keep_cell hbz c2
        have d3 := keep_cell hbz c3
        have d4 := keep_cell hbz c4
        have k2 : (k : Int) < (lb.length : Int) := by omega
        have bz2 := balloc (w := wr.alloc (.cells #[.int .i64 rk, .int .i64 ri, .string rt, .slice la' ln lc, .slice fa fn fc] 28)) (.cells #[.int .i64 rk2, .int .i64 ri2, .string rt2, .slice la2 ln2 lc2, .slice fa2 fn2 fc2] 28)
        have hbz2 := hbz.trans (bz2.mono hbz.size)
        have HR1 := hid_mk (hr.below hbz2)
        have HR2 := hid_mk (hr2.below hbz2)
        have HST := hid_mk (cmpL_step (cmpV d) la lb k hlt hlt2)
        have Yb := below_block bz2 (by simp) (heap_alloc_new wr (.cells #[.int .i64 rk, .int .i64 ri, .string rt, .slice la' ln lc, .slice fa fn fc] 28))
        have x0 := (cell_of_row _ _ 0 _ _ _ Yb).trans rfl
        have x1 := (cell_of_row _ _ 1 _ _ _ Yb).trans rfl
        have x2 := (cell_of_row _ _ 2 _ _ _ Yb).trans rfl
        have x3 := (cell_of_row _ _ 3 _ _ _ Yb).trans rfl
        have x4 := (cell_of_row _ _ 4 _ _ _ Yb).trans rfl
        clear hcc c0 c1 c2 c3 c4 hr hr2 bz bz2 hbz Yb
        go_wp2_with fail
        refine (HIH.out _ _ _ _ _ HR1.out HR2.out).mono ?_
        rintro e w4 ⟨rfl, b4⟩
        have hb4 := hbz2.trans (b4.mono hbz2.size)
        obtain ⟨c, hc⟩ : ∃ c, c = cmpV d la[k] lb[k] := ⟨_, rfl⟩
        rw [← hc]
        rw [← hc] at HST
        clear hc HR1 HR2 b4 hbz2
        by_cases hz : c = 0
        · have hq : (c != 0) = false := by simp [hz]
          have HZ : Hid (cmpL (cmpV d) la lb = cmpL (cmpV d) (la.drop (k + 1)) (lb.drop (k + 1))) := hid_mk (by rw [HC.out, HST.out, if_pos hz])
          clear hz HC HST
          go_wp2_with fail
          exact ⟨⟨k + 1, by go_num, by omega, by omega, HZ, hb4⟩, by simp [intOf]; omega⟩
        · have hq : (c != 0) = true := by simpa using hz
          have HZ : Hid (cmpL (cmpV d) la lb = c) := hid_mk (by rw [HC.out, HST.out, if_neg hz])
          clear hz HC HST
          go_wp2_with fail
          go_ret
          exact ⟨ret_int HZ.out.symm, hb4⟩
      · have hge : (lb.length : Int) ≤ (k : Int) := by omega
        have HZ : Hid (cmpL (cmpV d) la lb = 1) := hid_mk (by
          rw [HC.out, List.drop_eq_nil_of_le (show lb.length ≤ k by omega)]
          exact cmpL_end2 _ _ (by rw [List.length_drop]; omega))
        clear HC hr
        go_wp2_with fail
        go_ret
        exact ⟨ret_int HZ.out.symm, hb.trans ((balloc (w := wr) _).mono hb.size)⟩
    · obtain rfl : k = la.length := by omega
      have HZ : Hid (cmpL (cmpV d) la lb = if la.length < lb.length then -1 else 0) := hid_mk (by
        rw [HC.out, List.drop_length, cmpL_end1, List.length_drop]
        by_cases h : la.length < lb.length
        · rw [if_pos h, if_pos (by omega)]
        · rw [if_neg h, if_neg (by omega)])
      clear HC
      by_cases h : la.length < lb.length
      · rw [if_pos h] at HZ
        have hI : (la.length : Int) < (lb.length : Int) := by omega
        go_wp2_with fail
        go_ret
        exact ⟨ret_int HZ.out.symm, hb⟩
      · rw [if_neg h] at HZ
        have hI : ¬ (la.length : Int) < (lb.length : Int) := by omega
        go_wp2_with fail
        go_ret
        exact ⟨ret_int HZ.out.symm, hb⟩

end Go.Proofs.YtmeebjjdceokeaaDoor
