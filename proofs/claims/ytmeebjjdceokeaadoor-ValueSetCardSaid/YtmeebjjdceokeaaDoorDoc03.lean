/- Doc: the document of bytes: an object. -/
import Derived.Test.YtmeebjjdceokeaaDoorOfV
import Derived.Test.YtmeebjjdceokeaaDoorCmpOrd
import Derived.Deep.AppendSrc
import Derived.Lib.AppendZeros
namespace Go.Proofs.YtmeebjjdceokeaaDoor
open Go.RowKit
set_option linter.unusedVariables false
attribute [local go_sem ↓] Go.wp_at_zero Go.wp_at_succ

theorem infoU : (Tryd.prog.info? 5).map (fun i => (i.zero, i.size, i.bytes)) = some (some (.int .u8 0), 1, 1) := by kernel_rfl
def u8s (l : List Int) : List Value := l.map fun i => .int .u8 i
theorem bytes_of_row {w : World} {B : Nat} {A : Option Addr} {n c : Nat} {l : List Int} (R : Rw B w 5 1 (.slice A n c) n (u8s l)) (hn : 0 < n) (hl : ∀ z ∈ l, 0 ≤ z ∧ z ≤ 255) : Bytes w.heap.size w A n c l := by
  have hlen : l.length = n := by have := R.1; unfold u8s at this; rw [List.length_map] at this; omega
  obtain ⟨A', c', hv, q1, q2, q3, q4⟩ := R.shape
  injection hv with e1 e2 e3
  subst e1 e3
  refine ⟨hlen, q1, q2, fun _ => ?_, hl⟩
  rcases A with _ | a
  · have := (q3 rfl).1; omega
  · obtain ⟨g, rfl, _, hg, _, hc⟩ := q4 a rfl
    refine ⟨g, 0, rfl, hg, fun i hi => ?_⟩
    rw [Nat.zero_add]
    refine hc i _ ?_
    unfold u8s
    rw [List.getElem?_map, List.getD_eq_getElem?_getD, List.getElem?_eq_getElem (by omega)]
    rfl
/-- One byte, and others behind it. -/
theorem app_bytes {W : World} {g : Nat} {x : Int} (hg : W.heap[g]? = some (.cells #[.int .u8 x] 5 (0, 0))) (A : Option Addr) (m c : Nat) (ys : List Int) (hl : ys.length = m) (hA : 0 < m → ∃ a, A = some a ∧ ∀ j, j < m → W.cell? (a.add j) = some (.int .u8 (ys.getD j 0)))
    (hb : m < 100) (hx : 0 ≤ x ∧ x ≤ 255) (hy : ∀ z ∈ ys, 0 ≤ z ∧ z ≤ 255) :
    ∃ A3 c3 w3, (Builtin.append_ #[22, 22] 22 #[.slice (some ⟨g, 0, none⟩) 1 1, .slice A m c]).run Tryd.prog W = .ok (.slice A3 (1 + m) c3) w3 ∧ Bytes w3.heap.size w3 A3 (1 + m) c3 (x :: ys) ∧ Below g W w3 := by
  obtain ⟨i0, hi0, hz0, hzs, hzb⟩ := info_parts infoU
  have hgl := lt_of_block hg
  have R0 : Rw g W 5 1 (.slice (some ⟨g, 0, none⟩) 1 1) 1 (u8s [x]) := ⟨rfl, .inr ⟨g, 1, _, rfl, Nat.le_refl _, hg, Nat.le_refl _, by simp [maxLen], by simp, rfl⟩⟩
  have hxy : ∀ z ∈ x :: ys, 0 ≤ z ∧ z ≤ 255 := fun z hz => by
    rcases List.mem_cons.1 hz with rfl | hz
    · exact hx
    · exact hy z hz
  rcases Nat.eq_zero_or_pos m with h0 | h0
  · subst h0
    have hys : ys = [] := List.eq_nil_of_length_eq_zero hl
    subst hys
    have hs : Src Tryd.prog i0.size 22 (.slice A 0 c) 0 [] W := by
      rcases A with _ | a
      · exact Src.ofNil W Tryd.underlying22 c
      · exact Src.ofSlice W Tryd.underlying22 a 0 c [] (by simp) (fun j u hu => by simp at hu) (fun u hu => absurd hu (by simp))
    have hr := run_append_room_src (P := Tryd.prog) W 22 22 22 5 i0 Tryd.underlying22 hi0 g 0 1 1 (.slice A 0 c) 0 [] hs (by omega) (fun j hj => absurd hj (by simp)) (fun j hj => absurd hj (by simp))
    exact ⟨_, _, _, hr, bytes_of_row R0 (by omega) hxy, Below.refl _ _⟩
  · obtain ⟨a, rfl, hc⟩ := hA h0
    obtain ⟨v', w', hr, R1, M1⟩ := run_app_rw (P := Tryd.prog) R0 (Nat.le_of_lt hgl) 22 22 i0 _ 1 Tryd.underlying22 hi0 hz0 hzs hzb rfl (by omega) a m c h0 (u8s ys) (by unfold u8s; rw [List.length_map, hl, Nat.mul_one])
      (fun j u hu => by
        unfold u8s at hu
        rw [List.getElem?_map] at hu
        have hj : j < ys.length := by
          rcases Nat.lt_or_ge j ys.length with h | h
          · exact h
          · rw [List.getElem?_eq_none h] at hu; cases hu
        rw [List.getElem?_eq_getElem hj] at hu
        injection hu with hu
        subst hu
        rw [hc j (by omega), List.getD_eq_getElem?_getD, List.getElem?_eq_getElem hj]; rfl)
      (fun u hu => by unfold u8s at hu; obtain ⟨z, _, rfl⟩ := List.mem_map.1 hu; rfl) (by omega) (by omega)
    obtain ⟨A3, c3, rfl, _, _, _⟩ := R1.shape
    refine ⟨A3, c3, w', hr, bytes_of_row (l := x :: ys) R1 (by omega) hxy, M1.below (fun k hk => ?_) (Nat.le_of_lt hgl)⟩
    have e : g = k := by simpa [own, Value.ownBlock] using hk
    omega

set_option maxHeartbeats 4000000 in
set_option maxRecDepth 100000 in
theorem doc_any (A : Option Addr) (n cap : Nat) (zs : List Int) (w : World) (hb : Bytes w.heap.size w A n cap zs) (ht : Tabs w) :
    Calls Tryd.prog 16 #[.slice A n cap] w fun e w' => ∃ v r, e = .returned (Rv.agg r) ∧ RdW 4 w' v r ∧ VGood 4 v ∧ v.k = 5 ∧ Below w.heap.size w w' := by
  obtain ⟨q, hqn, hq60, hqq, hmin⟩ := min_fact Tryd.prog n 60 (by omega)
  obtain ⟨p, hpn, hp1, hpp, hmin1⟩ := min_fact Tryd.prog n 1 (by omega)
  have hnc : n ≤ cap := hb.2.1
  have HB := hid_mk hb
  have HT := hid_mk ht
  rcases n with _ | n
  · have hq0 : q = 0 := by omega
    have hp0 : p = 0 := by omega
    subst hq0 hp0
    obtain ⟨W, hW⟩ : ∃ W, W = (w.alloc (.cells #[.int .i64 0, .int .i64 0, .string ⟨#[]⟩, .slice none 0 0, .slice none 0 0] 28)).alloc (.cells #[.int .u8 5] 5) := ⟨_, rfl⟩
    have bW : Below w.heap.size w W := by rw [hW]; exact bthen (balloc _) (balloc _)
    have X0 : W.heap[w.heap.size]? = some (.cells #[.int .i64 0, .int .i64 0, .string ⟨#[]⟩, .slice none 0 0, .slice none 0 0] 28 (0, 0)) := by rw [hW]; exact below_block (balloc _) (by simp) (heap_alloc_new w _)
    have X1 : W.heap[w.heap.size + 1]? = some (.cells #[.int .u8 5] 5 (0, 0)) := by
      have h := heap_alloc_new (w.alloc (.cells #[.int .i64 0, .int .i64 0, .string ⟨#[]⟩, .slice none 0 0, .slice none 0 0] 28)) (.cells #[.int .u8 5] 5)
      rw [World.size_alloc, ← hW] at h; exact h
    clear hb ht hqq hpp hqn hpn hq60 hp1
    obtain ⟨A3, c3, w3, hr, B3, m3⟩ := app_bytes X1 A 0 cap [] rfl (fun h => absurd h (by omega)) (by omega) (by omega) (fun z hz => absurd hz (by simp))
    rw [Nat.add_zero] at hr B3
    rcases A with _ | a
    all_goals
      have HB3 := hid_mk B3
      have HX0 := hid_mk (m3.block w.heap.size (Nat.lt_succ_self _) |>.trans X0)
      have hbb : Below w.heap.size w w3 := bW.trans (m3.mono (Nat.le_succ _))
      have HT3 := hid_mk (HT.out.below hbb)
      have HBB := hid_mk hbb
      rw [hW] at hr
      clear hW bW X0 X1 B3 m3 hbb
      go_enter Tryd.func16, Tryd.ntmps16
      go_wp2_with (at_builtin; refine Lib.wpList_append_run _ rfl _ _ 22 22 rfl _ _ rfl rfl _ _ hr ?_)
      refine (made_o w3.heap.size A3 1 c3 [5] _ (Nat.le_refl _) HB3.out HT3.out).mono ?_
      rintro e w1 ⟨v, r, A4, n4, c4, z4, rfl, D1, G1, T1, b1, O1⟩
      have o1 : v.k = 5 := O1 ⟨by omega, by rw [List.getD_cons_zero]; omega, by omega⟩
      obtain ⟨rk, ri, rt, ⟨la, ln, lc⟩, ⟨fa, fn, fc⟩⟩ := r
      simp only [Rv.agg, Sl.v]
      have hb1 := HBB.out.trans (b1.mono HBB.out.size)
      have X1 := below_block b1 (lt_of_block HX0.out) HX0.out
      have bz := balloc (w := w1) (.cells #[.int .i64 rk, .int .i64 ri, .string rt, .slice la ln lc, .slice fa fn fc] 28)
      have X2 := below_block bz (lt_of_block X1) X1
      have Yx := heap_alloc_new w1 (.cells #[.int .i64 rk, .int .i64 ri, .string rt, .slice la ln lc, .slice fa fn fc] 28)
      obtain ⟨w2, hw2⟩ : ∃ w2, w2 = w1.alloc (.cells #[.int .i64 rk, .int .i64 ri, .string rt, .slice la ln lc, .slice fa fn fc] 28) := ⟨_, rfl⟩
      rw [← hw2] at X2 Yx bz
      have x0 : w2.cell? ⟨w1.heap.size, 0, none⟩ = some (.int .i64 rk) := (cell_of_row _ _ 0 _ _ _ Yx).trans rfl
      have x1 : w2.cell? ⟨w1.heap.size, 1, none⟩ = some (.int .i64 ri) := (cell_of_row _ _ 1 _ _ _ Yx).trans rfl
      have x2 : w2.cell? ⟨w1.heap.size, 2, none⟩ = some (.string rt) := (cell_of_row _ _ 2 _ _ _ Yx).trans rfl
      have x3 : w2.cell? ⟨w1.heap.size, 3, none⟩ = some (.slice la ln lc) := (cell_of_row _ _ 3 _ _ _ Yx).trans rfl
      have x4 : w2.cell? ⟨w1.heap.size, 4, none⟩ = some (.slice fa fn fc) := (cell_of_row _ _ 4 _ _ _ Yx).trans rfl
      have k0 : w2.cell? ⟨w.heap.size, 0, none⟩ = some (.int .i64 0) := (cell_of_row _ _ 0 _ _ _ X2).trans rfl
      have k1 : w2.cell? ⟨w.heap.size, 1, none⟩ = some (.int .i64 0) := (cell_of_row _ _ 1 _ _ _ X2).trans rfl
      have k2 : w2.cell? ⟨w.heap.size, 2, none⟩ = some (.string ⟨#[]⟩) := (cell_of_row _ _ 2 _ _ _ X2).trans rfl
      have k3 : w2.cell? ⟨w.heap.size, 3, none⟩ = some (.slice none 0 0) := (cell_of_row _ _ 3 _ _ _ X2).trans rfl
      have k4 : w2.cell? ⟨w.heap.size, 4, none⟩ = some (.slice none 0 0) := (cell_of_row _ _ 4 _ _ _ X2).trans rfl
      have f0 : w2.frozen? ⟨w.heap.size, 0, none⟩ = false := by simp [World.frozen?, X2]
      have f1 : w2.frozen? ⟨w.heap.size, 1, none⟩ = false := by simp [World.frozen?, X2]
      have f2 : w2.frozen? ⟨w.heap.size, 2, none⟩ = false := by simp [World.frozen?, X2]
      have f3 : w2.frozen? ⟨w.heap.size, 3, none⟩ = false := by simp [World.frozen?, X2]
      have f4 : w2.frozen? ⟨w.heap.size, 4, none⟩ = false := by simp [World.frozen?, X2]
      have hne : ¬ w1.heap.size = w.heap.size := by have := lt_of_block X1; omega
      have hne' : ¬ w.heap.size = w1.heap.size := by omega
      have hb2 := bthen hb1 bz
      have h3 : w.heap.size < w3.heap.size := lt_of_block HX0.out
      have HD := hid_mk (of_done D1 hb1 bz h3)
      have HW2 := hid_mk hw2
      have HG := hid_mk (And.intro G1 o1)
      clear D1 G1 T1 b1 bz X1 X2 Yx h3 O1 o1 HX0
      rw [hw2] at x0 x1 x2 x3 x4 k0 k1 k2 k3 k4 f0 f1 f2 f3 f4
      clear hw2
      go_wp2_with fail
      (try simp only [Exit.inBlock, Exit.then])
      refine bodyPost_ret (v := .agg #[.int .i64 rk, .int .i64 ri, .string rt, .slice la ln lc, .slice fa fn fc]) ?_ rfl ?_
      · simp [results, Tryd.results16, go_sem, *]
      · rw [← HW2.out]
        exact ⟨v, ⟨rk, ri, rt, ⟨la, ln, lc⟩, ⟨fa, fn, fc⟩⟩, rfl, (HD.out _ _ _ _ _).wider (fun b h => h.2), HG.out.1, HG.out.2, set5_below (Nat.le_refl _) hb2 _ _ _ _ _⟩
  · obtain ⟨b, off, rfl, hbw, c0, htl⟩ := hb.tail
    have hc := hb.2.2.2.2 (zs.getD 0 0) (by have := hb.1; rw [List.getD_eq_getElem?_getD, List.getElem?_eq_getElem (by omega)]; exact List.getElem_mem _)
    obtain ⟨c, hce⟩ : ∃ c, c = zs.getD 0 0 := ⟨_, rfl⟩
    rw [← hce] at c0 hc
    obtain ⟨mk, hmk⟩ : ∃ mk, c % 16 = mk := ⟨_, rfl⟩
    have hm0 : 0 ≤ mk := by omega
    have hm15 : mk ≤ 15 := by omega
    have hp1' : p = 1 := by omega
    subst hp1'
    have hq1 : 1 ≤ q := by omega
    have hqc : q ≤ cap := by omega
    have hpos : (0 : Int) < ((n + 1 : Nat) : Int) := by omega
    have c0' := keep_cell (balloc (w := w) (.cells #[.int .i64 0, .int .i64 0, .string ⟨#[]⟩, .slice none 0 0, .slice none 0 0] 28)) c0
    have e9 : ((n + 1 : Nat) : Int) = (n : Int) + 1 := by omega
    have m60 : ∀ ats ty W, (Builtin.min_ ats ty #[.int .i64 ((n : Int) + 1), .int .i64 60]).run Tryd.prog W = .ok (.int .i64 (q : Int)) W := fun ats ty W => by have h := hmin ats ty W; rwa [e9] at h
    have m1 : ∀ ats ty W, (Builtin.min_ ats ty #[.int .i64 ((n : Int) + 1), .int .i64 1]).run Tryd.prog W = .ok (.int .i64 1) W := fun ats ty W => by have h := hmin1 ats ty W; rwa [e9] at h
    have g1 : (1 : Int) ≤ (q : Int) := by omega
    have g2 : (q : Int) ≤ (cap : Int) := by omega
    have g3 : (0 : Int) ≤ (q : Int) := by omega
    obtain ⟨A', hA'⟩ : ∃ A', (if cap = 1 then some (⟨b, off, none⟩ : Addr) else some ⟨b, off + 1, none⟩) = A' := ⟨_, rfl⟩
    have hrest := htl A' (by
      by_cases h1 : cap = 1
      · exact .inl (by omega)
      · right; rw [← hA', if_neg h1])
    have hrest2 := hrest.prefix_ (m := q - 1) (by omega)
    obtain ⟨W, hW⟩ : ∃ W, W = (w.alloc (.cells #[.int .i64 0, .int .i64 0, .string ⟨#[]⟩, .slice none 0 0, .slice none 0 0] 28)).alloc (.cells #[.int .u8 (5 + 6 * mk)] 5) := ⟨_, rfl⟩
    have bW : Below w.heap.size w W := by rw [hW]; exact bthen (balloc _) (balloc _)
    have X0 : W.heap[w.heap.size]? = some (.cells #[.int .i64 0, .int .i64 0, .string ⟨#[]⟩, .slice none 0 0, .slice none 0 0] 28 (0, 0)) := by rw [hW]; exact below_block (balloc _) (by simp) (heap_alloc_new w _)
    have X1 : W.heap[w.heap.size + 1]? = some (.cells #[.int .u8 (5 + 6 * mk)] 5 (0, 0)) := by
      have h := heap_alloc_new (w.alloc (.cells #[.int .i64 0, .int .i64 0, .string ⟨#[]⟩, .slice none 0 0, .slice none 0 0] 28)) (.cells #[.int .u8 (5 + 6 * mk)] 5)
      rw [World.size_alloc, ← hW] at h; exact h
    obtain ⟨A3, c3, w3, hr, B3, m3⟩ := app_bytes X1 A' (q - 1) (cap - 1) ((zs.drop 1).take (q - 1)) hrest2.1 (fun h => by
        obtain ⟨b', off', hA9, hb9, hc9⟩ := hrest2.2.2.2.1 h
        refine ⟨_, hA9, fun j hj => ?_⟩
        rw [Addr.add_lit]
        exact keep_cell bW (hc9 j hj)) (by omega) (by omega) hrest2.2.2.2.2
    obtain ⟨s, hs⟩ : ∃ s, s = 1 + (q - 1) := ⟨_, rfl⟩
    rw [← hs] at hr B3
    have hnn : 0 < s := by omega
    have hmm := And.intro hm0 hm15
    have HB3 := hid_mk B3
    have HX0 := hid_mk (m3.block w.heap.size (Nat.lt_succ_self _) |>.trans X0)
    have hbb : Below w.heap.size w w3 := bW.trans (m3.mono (Nat.le_succ _))
    have HT3 := hid_mk (HT.out.below hbb)
    have HBB := hid_mk hbb
    rw [hW] at hr
    have HQ := hid_mk (And.intro hnn hmm)
    clear hs hb ht hce htl hqq hpp hmin hmin1 e9 hrest hrest2 hW bW X0 X1 B3 m3 hbb hnn hmm hqn hq60 hpn hp1
    go_enter Tryd.func16, Tryd.ntmps16
    go_wp2_with (at_builtin; refine Lib.wpList_append_run _ rfl _ _ 22 22 rfl _ _ rfl rfl _ _ hr ?_)
    refine (made_o w3.heap.size A3 s c3 ((5 + 6 * mk) :: (zs.drop 1).take (q - 1)) _ (Nat.le_refl _) HB3.out HT3.out).mono ?_
    rintro e w1 ⟨v, r, A4, n4, c4, z4, rfl, D1, G1, T1, b1, O1⟩
    have o1 : v.k = 5 := O1 ⟨HQ.out.1, by rw [List.getD_cons_zero]; have := HQ.out.2; omega, by omega⟩
    obtain ⟨rk, ri, rt, ⟨la, ln, lc⟩, ⟨fa, fn, fc⟩⟩ := r
    simp only [Rv.agg, Sl.v]
    have hb1 := HBB.out.trans (b1.mono HBB.out.size)
    have X1 := below_block b1 (lt_of_block HX0.out) HX0.out
    have bz := balloc (w := w1) (.cells #[.int .i64 rk, .int .i64 ri, .string rt, .slice la ln lc, .slice fa fn fc] 28)
    have X2 := below_block bz (lt_of_block X1) X1
    have Yx := heap_alloc_new w1 (.cells #[.int .i64 rk, .int .i64 ri, .string rt, .slice la ln lc, .slice fa fn fc] 28)
    obtain ⟨w2, hw2⟩ : ∃ w2, w2 = w1.alloc (.cells #[.int .i64 rk, .int .i64 ri, .string rt, .slice la ln lc, .slice fa fn fc] 28) := ⟨_, rfl⟩
    rw [← hw2] at X2 Yx bz
    have x0 : w2.cell? ⟨w1.heap.size, 0, none⟩ = some (.int .i64 rk) := (cell_of_row _ _ 0 _ _ _ Yx).trans rfl
    have x1 : w2.cell? ⟨w1.heap.size, 1, none⟩ = some (.int .i64 ri) := (cell_of_row _ _ 1 _ _ _ Yx).trans rfl
    have x2 : w2.cell? ⟨w1.heap.size, 2, none⟩ = some (.string rt) := (cell_of_row _ _ 2 _ _ _ Yx).trans rfl
    have x3 : w2.cell? ⟨w1.heap.size, 3, none⟩ = some (.slice la ln lc) := (cell_of_row _ _ 3 _ _ _ Yx).trans rfl
    have x4 : w2.cell? ⟨w1.heap.size, 4, none⟩ = some (.slice fa fn fc) := (cell_of_row _ _ 4 _ _ _ Yx).trans rfl
    have k0 : w2.cell? ⟨w.heap.size, 0, none⟩ = some (.int .i64 0) := (cell_of_row _ _ 0 _ _ _ X2).trans rfl
    have k1 : w2.cell? ⟨w.heap.size, 1, none⟩ = some (.int .i64 0) := (cell_of_row _ _ 1 _ _ _ X2).trans rfl
    have k2 : w2.cell? ⟨w.heap.size, 2, none⟩ = some (.string ⟨#[]⟩) := (cell_of_row _ _ 2 _ _ _ X2).trans rfl
    have k3 : w2.cell? ⟨w.heap.size, 3, none⟩ = some (.slice none 0 0) := (cell_of_row _ _ 3 _ _ _ X2).trans rfl
    have k4 : w2.cell? ⟨w.heap.size, 4, none⟩ = some (.slice none 0 0) := (cell_of_row _ _ 4 _ _ _ X2).trans rfl
    have f0 : w2.frozen? ⟨w.heap.size, 0, none⟩ = false := by simp [World.frozen?, X2]
    have f1 : w2.frozen? ⟨w.heap.size, 1, none⟩ = false := by simp [World.frozen?, X2]
    have f2 : w2.frozen? ⟨w.heap.size, 2, none⟩ = false := by simp [World.frozen?, X2]
    have f3 : w2.frozen? ⟨w.heap.size, 3, none⟩ = false := by simp [World.frozen?, X2]
    have f4 : w2.frozen? ⟨w.heap.size, 4, none⟩ = false := by simp [World.frozen?, X2]
    have hne : ¬ w1.heap.size = w.heap.size := by have := lt_of_block X1; omega
    have hne' : ¬ w.heap.size = w1.heap.size := by omega
    have hb2 := bthen hb1 bz
    have h3 : w.heap.size < w3.heap.size := lt_of_block HX0.out
    have HD := hid_mk (of_done D1 hb1 bz h3)
    have HW2 := hid_mk hw2
    have HG := hid_mk (And.intro G1 o1)
    clear D1 G1 T1 b1 bz X1 X2 Yx h3 O1 o1 HX0
    rw [hw2] at x0 x1 x2 x3 x4 k0 k1 k2 k3 k4 f0 f1 f2 f3 f4
    clear hw2
    go_wp2_with fail
    (try simp only [Exit.inBlock, Exit.then])
    refine bodyPost_ret (v := .agg #[.int .i64 rk, .int .i64 ri, .string rt, .slice la ln lc, .slice fa fn fc]) ?_ rfl ?_
    · simp [results, Tryd.results16, go_sem, *]
    · rw [← HW2.out]
      exact ⟨v, ⟨rk, ri, rt, ⟨la, ln, lc⟩, ⟨fa, fn, fc⟩⟩, rfl, (HD.out _ _ _ _ _).wider (fun b h => h.2), HG.out.1, HG.out.2, set5_below (Nat.le_refl _) hb2 _ _ _ _ _⟩

end Go.Proofs.YtmeebjjdceokeaaDoor
