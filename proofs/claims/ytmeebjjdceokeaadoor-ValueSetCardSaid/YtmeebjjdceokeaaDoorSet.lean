/- A value with a field. -/
import Derived.Test.YtmeebjjdceokeaaDoorSetPure
namespace Go.Proofs.YtmeebjjdceokeaaDoor
open Go.RowKit
set_option linter.unusedVariables false
attribute [local go_sem ↓] Go.wp_at_zero Go.wp_at_succ

theorem alloc_old {w : World} {o : Obj} {k : Nat} {p : Obj} (h : w.heap[k]? = some p) : (w.alloc o).heap[k]? = some p := below_block (balloc o) (lt_of_block h) h
theorem alloc4 (w : World) (a b c d : Array Value) (s t u v : TypeId) :
    ((((w.alloc (.cells a s)).alloc (.cells b t)).alloc (.cells c u)).alloc (.cells d v)).heap[w.heap.size]? = some (.cells a s (0, 0)) ∧
    ((((w.alloc (.cells a s)).alloc (.cells b t)).alloc (.cells c u)).alloc (.cells d v)).heap[w.heap.size + 1]? = some (.cells b t (0, 0)) ∧
    ((((w.alloc (.cells a s)).alloc (.cells b t)).alloc (.cells c u)).alloc (.cells d v)).heap[w.heap.size + 1 + 1]? = some (.cells c u (0, 0)) ∧
    ((((w.alloc (.cells a s)).alloc (.cells b t)).alloc (.cells c u)).alloc (.cells d v)).heap[w.heap.size + 1 + 1 + 1]? = some (.cells d v (0, 0)) := by
  have h1 := heap_alloc_new w (.cells a s)
  have h2 := heap_alloc_new (w.alloc (.cells a s)) (.cells b t)
  have h3 := heap_alloc_new ((w.alloc (.cells a s)).alloc (.cells b t)) (.cells c u)
  have h4 := heap_alloc_new (((w.alloc (.cells a s)).alloc (.cells b t)).alloc (.cells c u)) (.cells d v)
  rw [World.size_alloc] at h2
  rw [World.size_alloc, World.size_alloc] at h3
  rw [World.size_alloc, World.size_alloc, World.size_alloc] at h4
  exact ⟨alloc_old (alloc_old (alloc_old h1)), alloc_old (alloc_old h2), alloc_old h3, h4⟩

theorem fcells_set6 (l : List Fv) (k : Nat) (f : Fv) (h : k < l.length) :
    ((((((fcells l).set (k * 6) (.string f.1)).set (k * 6 + 1) (.int .i64 f.2.k)).set (k * 6 + 2) (.int .i64 f.2.i)).set (k * 6 + 3) (.string f.2.t)).set (k * 6 + 4) f.2.l.v).set (k * 6 + 5) f.2.f.v = fcells (l.set k f) := by
  induction l generalizing k with
  | nil => simp at h
  | cons a l ih =>
    cases k with
    | zero => rfl
    | succ k =>
      have e := ih k (by simpa using h)
      rw [show (k + 1) * 6 + 1 = k * 6 + 1 + 6 by omega, show (k + 1) * 6 + 2 = k * 6 + 2 + 6 by omega, show (k + 1) * 6 + 3 = k * 6 + 3 + 6 by omega, show (k + 1) * 6 + 4 = k * 6 + 4 + 6 by omega, show (k + 1) * 6 + 5 = k * 6 + 5 + 6 by omega, show (k + 1) * 6 = k * 6 + 6 by omega]
      exact congrArg (fun t => Fv.cs a ++ t) e
theorem All2.set {α β : Type} {R : α → β → Prop} {xs : List α} {ys : List β} (h : All2 R xs ys) {a : α} {b : β} (hab : R a b) : ∀ k, All2 R (xs.set k a) (ys.set k b) := by
  induction h with
  | nil => intro k; exact .nil
  | cons h1 h2 ih =>
    intro k
    cases k with
    | zero => exact .cons hab h2
    | succ k => exact .cons h1 (ih k)
theorem setV_found {v x : V} {name : ByteArray} {k : Nat} (h5 : v.k = 5) (hk : atV v name = (k : Int)) : setV v name x = .mk v.k v.i v.t v.l (v.f.set k (name, x)) := by
  have hi : idxF (isN name) v.f 0 = (k : Int) := by unfold atV at hk; rwa [if_pos h5] at hk
  unfold setV setF
  rw [if_pos h5, if_pos (by rw [hasF_idx, hi]; simp), ← repF_idx name x v.f (by omega), hi, Int.toNat_natCast]
theorem setV_new {v x : V} {name : ByteArray} (h5 : v.k = 5) (hk : atV v name = -1) : setV v name x = .mk v.k v.i v.t v.l (v.f.take (insAt name v.f) ++ (name, x) :: v.f.drop (insAt name v.f)) := by
  have hi : idxF (isN name) v.f 0 = -1 := by unfold atV at hk; rwa [if_pos h5] at hk
  unfold setV setF
  rw [if_pos h5, if_neg (by rw [hasF_idx, hi]; simp), insF_idx name x v.f]
theorem insAt_cases (name : ByteArray) (l : Fl) : ∃ i : Nat, i ≤ l.length ∧ insAt name l = i ∧ ((idxF (gtN name) l 0 = -1 ∧ i = l.length) ∨ idxF (gtN name) l 0 = (i : Int)) := by
  refine ⟨insAt name l, insAt_le name l, rfl, ?_⟩
  have hg := idxF_ge (gtN name) l
  unfold insAt
  by_cases h : idxF (gtN name) l 0 < 0
  · rw [if_pos h]; exact .inl ⟨by omega, rfl⟩
  · rw [if_neg h]; exact .inr (by omega)

set_option maxHeartbeats 2000000 in
set_option maxRecDepth 100000 in
theorem set_any (d : Nat) (v x : V) (r rx : Rv) (name : ByteArray) (w : World) (R : RdW (d + 1) w v r) (X : RdW d w x rx) (hbig : v.f.length < 1000000000) :
    Calls Tryd.prog 17 #[r.agg, .string name, rx.agg] w fun e w' => ∃ r', e = .returned (Rv.agg r') ∧ RdW (d + 1) w' (setV v name x) r' ∧ Below w.heap.size w w' := by
  obtain ⟨qs, a1, a2⟩ := R.frow
  have p1 : r.k = v.k := R.rows.1
  have HR := hid_mk R
  obtain ⟨rk, ri, rt, ⟨la, ln, lc⟩, ⟨fa, fn, fc⟩⟩ := r
  obtain ⟨xk, xi, xt, ⟨xa, xn, xc⟩, ⟨ya, yn, yc⟩⟩ := rx
  simp only at p1
  obtain ⟨W1, hW1⟩ : ∃ W1, W1 = (((w.alloc (.cells #[.int .i64 rk, .int .i64 ri, .string rt, .slice la ln lc, .slice fa fn fc] 28)).alloc (.cells #[.string name] 9)).alloc (.cells #[.int .i64 xk, .int .i64 xi, .string xt, .slice xa xn xc, .slice ya yn yc] 28)).alloc (.cells #[.int .i64 0, .int .i64 0, .string ⟨#[]⟩, .slice none 0 0, .slice none 0 0] 28) := ⟨_, rfl⟩
  have b1 : Below w.heap.size w W1 := by rw [hW1]; exact bthen (bthen (bthen (balloc _) (balloc _)) (balloc _)) (balloc _)
  obtain ⟨X0, X1, X2, X3⟩ := alloc4 w #[.int .i64 rk, .int .i64 ri, .string rt, .slice la ln lc, .slice fa fn fc] #[.string name] #[.int .i64 xk, .int .i64 xi, .string xt, .slice xa xn xc, .slice ya yn yc] #[.int .i64 0, .int .i64 0, .string ⟨#[]⟩, .slice none 0 0, .slice none 0 0] 28 9 28 28
  rw [← hW1] at X0 X1 X2 X3
  have HX := hid_mk (And.intro X0 (And.intro X1 (And.intro X2 X3)))
  have HR1 := hid_mk (R.below b1)
  have HXX := hid_mk X
  have B1 := hid_mk b1
  have HW := hid_mk hW1.symm
  have HA1 := hid_mk a1
  have HA2 := hid_mk a2
  have HRG := hid_mk (atV_range v name)
  simp only [Rv.agg, Sl.v]
  clear R X b1 hW1 X0 X1 X2 X3 a1 a2
  by_cases h5 : rk = 5
  · subst h5
    have y0 := (cell_of_row W1 _ 0 _ _ _ HX.out.1).trans rfl
    have y1 := (cell_of_row W1 _ 1 _ _ _ HX.out.1).trans rfl
    have y2 := (cell_of_row W1 _ 2 _ _ _ HX.out.1).trans rfl
    have y3 := (cell_of_row W1 _ 3 _ _ _ HX.out.1).trans rfl
    have y4 := (cell_of_row W1 _ 4 _ _ _ HX.out.1).trans rfl
    have P1 := hid_mk p1
    have q0 : v.f.length < 1000000000000 := by omega
    clear p1
    go_enter Tryd.func17, Tryd.ntmps17
    go_wp2_with fail
    rw [HW.out]
    refine (clone_any 0 v.f.length (.slice fa fn fc) (fcells qs) _ (HA2.out.below B1.out) (fcells_one qs) q0).mono ?_
    rintro e w5 ⟨v5, rfl, R5, b5⟩
    obtain ⟨A5, c5, rfl, k5, k6, _, _⟩ := R5.shape
    have Z0 := below_block b5 (lt_of_block HX.out.1) HX.out.1
    have Z1 := below_block b5 (lt_of_block HX.out.2.1) HX.out.2.1
    have Z2 := below_block b5 (lt_of_block HX.out.2.2.1) HX.out.2.2.1
    have Z3 := below_block b5 (lt_of_block HX.out.2.2.2) HX.out.2.2.2
    obtain ⟨W6, hW6⟩ : ∃ W6, W6 = w5.alloc (.cells #[.string name, .int .i64 xk, .int .i64 xi, .string xt, .slice xa xn xc, .slice ya yn yc] 31) := ⟨_, rfl⟩
    have b6 : Below w5.heap.size w5 W6 := by rw [hW6]; exact balloc _
    have HB6 := hid_mk (bthen (bthen B1.out b5) b6)
    have HB16 := hid_mk (bthen b5 b6)
    have Z4 : W6.heap[w5.heap.size]? = some (.cells #[.string name, .int .i64 xk, .int .i64 xi, .string xt, .slice xa xn xc, .slice ya yn yc] 31 (0, 0)) := by rw [hW6]; exact heap_alloc_new w5 _
    have u0 := (cell_of_row W6 _ 0 _ _ _ (below_block b6 (lt_of_block Z0) Z0)).trans rfl
    have u1 := (cell_of_row W6 _ 1 _ _ _ (below_block b6 (lt_of_block Z0) Z0)).trans rfl
    have u2 := (cell_of_row W6 _ 2 _ _ _ (below_block b6 (lt_of_block Z0) Z0)).trans rfl
    have u3 := (cell_of_row W6 _ 3 _ _ _ (below_block b6 (lt_of_block Z0) Z0)).trans rfl
    have u4 := (cell_of_row W6 _ 4 _ _ _ (below_block b6 (lt_of_block Z0) Z0)).trans rfl
    have n1 := (cell_of_row W6 _ 0 _ _ _ (below_block b6 (lt_of_block Z1) Z1)).trans rfl
    rw [hW6] at u0 u1 u2 u3 u4 n1
    have n0 := (cell_of_row w5 _ 0 _ _ _ Z1).trans rfl
    have x0 := (cell_of_row w5 _ 0 _ _ _ Z2).trans rfl
    have x1 := (cell_of_row w5 _ 1 _ _ _ Z2).trans rfl
    have x2 := (cell_of_row w5 _ 2 _ _ _ Z2).trans rfl
    have x3 := (cell_of_row w5 _ 3 _ _ _ Z2).trans rfl
    have x4 := (cell_of_row w5 _ 4 _ _ _ Z2).trans rfl
    have HZ := hid_mk (And.intro (below_block b6 (lt_of_block Z0) Z0) (And.intro (below_block b6 (lt_of_block Z1) Z1) (And.intro (below_block b6 (lt_of_block Z3) Z3) Z4)))
    have HR6 := hid_mk (R5.below b6)
    have HGL : Hid (∀ g, A5 = some ⟨g, 0, none⟩ → g < w5.heap.size) := hid_mk fun g hg => (R5.lt g (by rw [hg]; rfl)).2
    have HRR6 := hid_mk (HR1.out.below (bthen b5 b6))
    have HW6 := hid_mk hW6.symm
    clear R5 b5 b6 Z0 Z1 Z2 Z3 Z4 hW6 y0 y1 y2 y3 y4
    go_wp2_with fail
    rw [HW6.out]
    refine (at_any d v ⟨5, ri, rt, ⟨la, ln, lc⟩, ⟨fa, fn, fc⟩⟩ name _ HRR6.out).mono ?_
    rintro e w7 ⟨rfl, b7⟩
    have HB7 := hid_mk (bthen HB6.out b7)
    have HB17 := hid_mk (bthen HB16.out b7)
    have HZ7 := hid_mk (And.intro (below_block b7 (lt_of_block HZ.out.1) HZ.out.1) (And.intro (below_block b7 (lt_of_block HZ.out.2.1) HZ.out.2.1) (And.intro (below_block b7 (lt_of_block HZ.out.2.2.1) HZ.out.2.2.1) (below_block b7 (lt_of_block HZ.out.2.2.2) HZ.out.2.2.2))))
    have HR7 := hid_mk (HR6.out.below b7)
    have HA7 := hid_mk (HA1.out.imp fun x y h => And.intro h.1 (h.2.below HB7.out))
    clear HR6 HRR6 HZ HB6 HB16 b7 u0 u1 u2 u3 u4 n0 n1 x0 x1 x2 x3 x4
    rcases HRG.out with hm | ⟨hk5, k, hk, hkl, hkn⟩
    · have HS := hid_mk (setV_new (x := x) P1.out.symm hm)
      rw [hm]
      obtain ⟨j, hj⟩ : ∃ j, j = idxF (gtN name) v.f 0 := ⟨_, rfl⟩
      obtain ⟨i, hi, hii, hor⟩ := insAt_cases name v.f
      rw [hii] at HS
      rw [← hj] at hor
      have m0 := (cell_of_row w7 _ 0 _ _ _ HZ7.out.2.1).trans rfl
      have HM0 := hid_mk m0
      have HJ := hid_mk hj
      clear hm m0 hj hii
      go_wp2_with fail
      refine (index_set d (w.heap.size + 1) name (gtN name) (set1_any _ name) v.f ⟨A5, v.f.length, c5⟩ _ ⟨qs, HA7.out, HR7.out.base (Nat.zero_le _)⟩ HM0.out).mono ?_
      rintro e w8 ⟨rfl, b8⟩
      rw [← HJ.out]
      have Z4 := below_block b8 (lt_of_block HZ7.out.2.2.2) HZ7.out.2.2.2
      have f0 := (cell_of_row w8 _ 0 _ _ _ Z4).trans rfl
      have f1 := (cell_of_row w8 _ 1 _ _ _ Z4).trans rfl
      have f2 := (cell_of_row w8 _ 2 _ _ _ Z4).trans rfl
      have f3 := (cell_of_row w8 _ 3 _ _ _ Z4).trans rfl
      have f4 := (cell_of_row w8 _ 4 _ _ _ Z4).trans rfl
      have f5 := (cell_of_row w8 _ 5 _ _ _ Z4).trans rfl
      obtain ⟨W9, hW9⟩ : ∃ W9, W9 = w8.alloc (.cells #[.string name, .int .i64 xk, .int .i64 xi, .string xt, .slice xa xn xc, .slice ya yn yc] 31) := ⟨_, rfl⟩
      have b9 : Below w8.heap.size w8 W9 := by rw [hW9]; exact balloc _
      have Z9 : W9.heap[w8.heap.size]? = some (.cells #[.string name, .int .i64 xk, .int .i64 xi, .string xt, .slice xa xn xc, .slice ya yn yc] 31 (0, 0)) := by rw [hW9]; exact heap_alloc_new w8 _
      have b79 := bthen b8 b9
      have R8 := HR7.out.below b8
      have HZ9 := hid_mk (And.intro (below_block b79 (lt_of_block HZ7.out.1) HZ7.out.1) (And.intro (below_block b79 (lt_of_block HZ7.out.2.2.1) HZ7.out.2.2.1) Z9))
      have HR9 := hid_mk (R8.below b9)
      have HNE : Hid ((Value.slice A5 v.f.length c5).ownBlock ≠ some w8.heap.size) := hid_mk fun h => by have := (R8.lt _ h).2; omega
      have HB9 := hid_mk (bthen HB7.out b79)
      have HB19 := hid_mk (bthen HB17.out b79)
      have HW9 := hid_mk hW9.symm
      have HI := hid_mk hi
      have HL := hid_mk hbig
      have hi9 : (i : Int) ≤ (v.f.length : Int) := by omega
      have hi0 : (0 : Int) ≤ (i : Int) := by omega
      clear b8 b9 b79 Z9 R8 hW9 Z4 HZ7 HR7 HJ HM0
      have HT : ∃ I : Int, Hid (I = (i : Int)) ∧ ((j = -1 ∧ I = (v.f.length : Int)) ∨ (j = I ∧ 0 ≤ I)) := by
        rcases hor with ⟨h1, h2⟩ | h1
        · exact ⟨(v.f.length : Int), hid_mk (by rw [h2]), .inl ⟨h1, rfl⟩⟩
        · exact ⟨(i : Int), hid_mk rfl, .inr ⟨h1, by omega⟩⟩
      obtain ⟨I, HII, hor'⟩ := HT
      clear hor hi9 hi0 hi
      rcases hor' with ⟨hj1, hI1⟩ | ⟨hj1, hI1⟩
      all_goals
        subst hj1
        try subst hI1
        go_wp2_with fail
        rw [HW9.out]
        refine (insertF_any W1.heap.size (.slice A5 v.f.length c5) v.f.length i w8.heap.size _ HII.out (fcells qs) #[.string name, .int .i64 xk, .int .i64 xi, .string xt, .slice xa xn xc, .slice ya yn yc] _ HR9.out (fcells_one qs) HI.out (by have := HL.out; omega) HB19.out.size HZ9.out.2.2 rfl (fv_one (name, ⟨xk, xi, xt, ⟨xa, xn, xc⟩, ⟨ya, yn, yc⟩⟩)) HNE.out (fcells (qs.take i ++ (name, ⟨xk, xi, xt, ⟨xa, xn, xc⟩, ⟨ya, yn, yc⟩⟩) :: qs.drop i)) (hid_mk (by rw [fcells_append, fcells_take, fcells_cons, fcells_drop, List.append_assoc]; rfl))).mono ?_
        rintro e wa ⟨va, rfl, Ra, ma⟩
        have Ba : Below W1.heap.size W1 wa := HB19.out.trans (ma.below (fun k hk => (HR9.out.lt k hk).1) HB19.out.size)
        have HBa := hid_mk (bthen B1.out Ba)
        have Z0 := ma.at_ HZ9.out.1 (HR9.out.ne HZ9.out.1 (by decide))
        have Z3 := ma.at_ HZ9.out.2.1 (HR9.out.ne HZ9.out.2.1 (by decide))
        have n0 : va.ownBlock ≠ some w.heap.size := Ra.ne Z0 (by decide)
        have n3 : va.ownBlock ≠ some (w.heap.size + 1 + 1 + 1) := Ra.ne Z3 (by decide)
        obtain ⟨Aa, ca, rfl, _, _, _, _⟩ := Ra.shape
        have HRa := hid_mk Ra
        have HN := hid_mk (And.intro n0 n3)
        have x0 := (cell_of_row wa _ 0 _ _ _ Z0).trans rfl
        have x1 := (cell_of_row wa _ 1 _ _ _ Z0).trans rfl
        have x2 := (cell_of_row wa _ 2 _ _ _ Z0).trans rfl
        have x3 := (cell_of_row wa _ 3 _ _ _ Z0).trans rfl
        have x4 := (cell_of_row wa _ 4 _ _ _ Z0).trans rfl
        have k0 := (cell_of_row wa _ 0 _ _ _ Z3).trans rfl
        have k1 := (cell_of_row wa _ 1 _ _ _ Z3).trans rfl
        have k2 := (cell_of_row wa _ 2 _ _ _ Z3).trans rfl
        have k3 := (cell_of_row wa _ 3 _ _ _ Z3).trans rfl
        have k4 := (cell_of_row wa _ 4 _ _ _ Z3).trans rfl
        have g3 : ∀ j, wa.frozen? ⟨w.heap.size + 1 + 1 + 1, j, none⟩ = false := fun j => by simp [World.frozen?, Z3]
        have g0 : ∀ j, wa.frozen? ⟨w.heap.size, j, none⟩ = false := fun j => by simp [World.frozen?, Z0]
        clear Ra ma Ba Z0 Z3 n0 n3 HR9 HZ9 f0 f1 f2 f3 f4 f5
        go_wp2_with fail
        (try simp only [Exit.inBlock, Exit.then])
        refine bodyPost_ret (v := (⟨5, ri, rt, ⟨la, ln, lc⟩, ⟨Aa, v.f.length + 1, ca⟩⟩ : Rv).agg) ?_ rfl ?_
        · simp [results, Tryd.results17, go_sem, Rv.agg, Sl.v, *]
        · have hf := set5v (b := w.heap.size + 1 + 1 + 1) (by omega) (v0 := .int .i64 5) (v1 := .int .i64 ri) (v2 := .string rt) (v3 := .slice la ln lc) (v4 := .slice Aa (v.f.length + 1) ca) (HBa.out.setCell (p := ⟨w.heap.size, 4, none⟩) (Nat.le_refl _) (.slice Aa (v.f.length + 1) ca))
          refine ⟨⟨5, ri, rt, ⟨la, ln, lc⟩, ⟨Aa, v.f.length + 1, ca⟩⟩, rfl, ?_, hf⟩
          rw [HS.out]
          have hlen : (v.f.take i ++ (name, x) :: v.f.drop i).length = v.f.length + 1 := by have := HI.out; rw [List.length_append, List.length_cons, List.length_take, List.length_drop]; omega
          refine HR.out.fields hf _ (qs.take i ++ (name, ⟨xk, xi, xt, ⟨xa, xn, xc⟩, ⟨ya, yn, yc⟩⟩) :: qs.drop i) ⟨Aa, v.f.length + 1, ca⟩ (((HA1.out.imp fun x y h => ⟨h.1, h.2.below hf⟩).take i).append (.cons ⟨rfl, HXX.out.below hf⟩ ((HA1.out.imp fun x y h => ⟨h.1, h.2.below hf⟩).drop i))) ?_
          rw [hlen]
          have q := (HRa.out.base (Nat.zero_le W1.heap.size)).setCell_other ⟨w.heap.size, 4, none⟩ (.slice Aa (v.f.length + 1) ca) HN.out.1
          exact ((((q.setCell_other ⟨w.heap.size + 1 + 1 + 1, 0, none⟩ _ HN.out.2).setCell_other ⟨w.heap.size + 1 + 1 + 1, 1, none⟩ _ HN.out.2).setCell_other ⟨w.heap.size + 1 + 1 + 1, 2, none⟩ _ HN.out.2).setCell_other ⟨w.heap.size + 1 + 1 + 1, 3, none⟩ _ HN.out.2).setCell_other ⟨w.heap.size + 1 + 1 + 1, 4, none⟩ _ HN.out.2
    · have HS := hid_mk (setV_found (x := x) P1.out.symm hk)
      have hm0 : (0 : Int) ≤ (k : Int) := by omega
      have hm1 : (k : Int) < (v.f.length : Int) := by omega
      have hkq : k < qs.length := by rw [← HA1.out.length]; exact hkl
      obtain ⟨A7, cc7, hv7, _, _, hnil, hcc⟩ := HR7.out.shape
      injection hv7 with e1 e2 e3
      subst e1 e3
      rcases A5 with _ | a
      · have := (hnil rfl).1; omega
      obtain ⟨g, rfl, hg1, hg2, ⟨cur, hgc, hgs⟩, hc⟩ := hcc a rfl
      obtain ⟨o0, o0c⟩ : ∃ u, w7.cell? ⟨g, k * 6, none⟩ = some u := ⟨_, hc _ _ (fcells_get qs k 0 _ hkq rfl)⟩
      obtain ⟨o1, o1c⟩ : ∃ u, w7.cell? ⟨g, k * 6 + 1, none⟩ = some u := ⟨_, hc _ _ (fcells_get qs k 1 _ hkq rfl)⟩
      obtain ⟨o2, o2c⟩ : ∃ u, w7.cell? ⟨g, k * 6 + 2, none⟩ = some u := ⟨_, hc _ _ (fcells_get qs k 2 _ hkq rfl)⟩
      obtain ⟨o3, o3c⟩ : ∃ u, w7.cell? ⟨g, k * 6 + 3, none⟩ = some u := ⟨_, hc _ _ (fcells_get qs k 3 _ hkq rfl)⟩
      obtain ⟨o4, o4c⟩ : ∃ u, w7.cell? ⟨g, k * 6 + 4, none⟩ = some u := ⟨_, hc _ _ (fcells_get qs k 4 _ hkq rfl)⟩
      obtain ⟨o5, o5c⟩ : ∃ u, w7.cell? ⟨g, k * 6 + 5, none⟩ = some u := ⟨_, hc _ _ (fcells_get qs k 5 _ hkq rfl)⟩
      have gf : ∀ j, w7.frozen? ⟨g, j, none⟩ = false := fun j => by simp [World.frozen?, hgc]
      have f0 := (cell_of_row w7 _ 0 _ _ _ HZ7.out.2.2.2).trans rfl
      have f1 := (cell_of_row w7 _ 1 _ _ _ HZ7.out.2.2.2).trans rfl
      have f2 := (cell_of_row w7 _ 2 _ _ _ HZ7.out.2.2.2).trans rfl
      have f3 := (cell_of_row w7 _ 3 _ _ _ HZ7.out.2.2.2).trans rfl
      have f4 := (cell_of_row w7 _ 4 _ _ _ HZ7.out.2.2.2).trans rfl
      have f5 := (cell_of_row w7 _ 5 _ _ _ HZ7.out.2.2.2).trans rfl
      have x0 := (cell_of_row w7 _ 0 _ _ _ HZ7.out.1).trans rfl
      have x1 := (cell_of_row w7 _ 1 _ _ _ HZ7.out.1).trans rfl
      have x2 := (cell_of_row w7 _ 2 _ _ _ HZ7.out.1).trans rfl
      have x3 := (cell_of_row w7 _ 3 _ _ _ HZ7.out.1).trans rfl
      have x4 := (cell_of_row w7 _ 4 _ _ _ HZ7.out.1).trans rfl
      have k0 := (cell_of_row w7 _ 0 _ _ _ HZ7.out.2.2.1).trans rfl
      have k1 := (cell_of_row w7 _ 1 _ _ _ HZ7.out.2.2.1).trans rfl
      have k2 := (cell_of_row w7 _ 2 _ _ _ HZ7.out.2.2.1).trans rfl
      have k3 := (cell_of_row w7 _ 3 _ _ _ HZ7.out.2.2.1).trans rfl
      have k4 := (cell_of_row w7 _ 4 _ _ _ HZ7.out.2.2.1).trans rfl
      have h3 := HZ7.out.2.2.1
      have h0 := HZ7.out.1
      have g3 : ∀ j, w7.frozen? ⟨w.heap.size + 1 + 1 + 1, j, none⟩ = false := fun j => by simp [World.frozen?, h3]
      have g0 : ∀ j, w7.frozen? ⟨w.heap.size, j, none⟩ = false := fun j => by simp [World.frozen?, h0]
      have n0 := HR7.out.ne h0 (by decide)
      have n3 := HR7.out.ne h3 (by decide)
      have m0 : ¬ g = w.heap.size := fun e => n0 (by rw [e]; rfl)
      have m0' : ¬ w.heap.size = g := fun e => m0 e.symm
      have m3 : ¬ g = w.heap.size + 1 + 1 + 1 := fun e => n3 (by rw [e]; rfl)
      have m3' : ¬ w.heap.size + 1 + 1 + 1 = g := fun e => m3 e.symm
      have HN := hid_mk (And.intro n0 n3)
      have hg9 : g < w5.heap.size := HGL.out g rfl
      have m5 : ¬ g = w5.heap.size := by omega
      have m5' : ¬ w5.heap.size = g := by omega
      have HKL := hid_mk hkl
      have HKQ := hid_mk hkq
      have HGG := hid_mk hg1
      rw [hk]
      clear hk hkl hkn hkq hcc hc hnil hgc hgs h0 h3 n0 n3 hg9 hg1 hg2 hk5
      go_wp2_with fail
      (try simp only [Exit.inBlock, Exit.then])
      refine bodyPost_ret (v := (⟨5, ri, rt, ⟨la, ln, lc⟩, ⟨some ⟨g, 0, none⟩, v.f.length, c5⟩⟩ : Rv).agg) ?_ rfl ?_
      · simp [results, Tryd.results17, go_sem, Rv.agg, Sl.v, *]
      · have hkl := HKL.out
        have hgw : w.heap.size ≤ g := Nat.le_trans B1.out.size HGG.out
        have R6 := ((((((HR7.out.setCell_ (k * 6) (.string name) (by omega)).setCell_ (k * 6 + 1) (.int .i64 xk) (by omega)).setCell_ (k * 6 + 2) (.int .i64 xi) (by omega)).setCell_ (k * 6 + 3) (.string xt) (by omega)).setCell_ (k * 6 + 4) (.slice xa xn xc) (by omega)).setCell_ (k * 6 + 5) (.slice ya yn yc) (by omega))
        have E6 := fcells_set6 qs k (name, ⟨xk, xi, xt, ⟨xa, xn, xc⟩, ⟨ya, yn, yc⟩⟩) HKQ.out
        simp only [Sl.v] at E6
        rw [E6] at R6
        have hf := set5v (b := w.heap.size + 1 + 1 + 1) (by omega) (v0 := .int .i64 5) (v1 := .int .i64 ri) (v2 := .string rt) (v3 := .slice la ln lc) (v4 := .slice (some ⟨g, 0, none⟩) v.f.length c5) (((((((HB7.out.setCell (p := ⟨g, k * 6, none⟩) hgw (.string name)).setCell (p := ⟨g, k * 6 + 1, none⟩) hgw (.int .i64 xk)).setCell (p := ⟨g, k * 6 + 2, none⟩) hgw (.int .i64 xi)).setCell (p := ⟨g, k * 6 + 3, none⟩) hgw (.string xt)).setCell (p := ⟨g, k * 6 + 4, none⟩) hgw (.slice xa xn xc)).setCell (p := ⟨g, k * 6 + 5, none⟩) hgw (.slice ya yn yc)).setCell (p := ⟨w.heap.size, 4, none⟩) (Nat.le_refl _) (.slice (some ⟨g, 0, none⟩) v.f.length c5))
        refine ⟨⟨5, ri, rt, ⟨la, ln, lc⟩, ⟨some ⟨g, 0, none⟩, v.f.length, c5⟩⟩, rfl, ?_, hf⟩
        rw [HS.out]
        refine HR.out.fields hf _ (qs.set k (name, ⟨xk, xi, xt, ⟨xa, xn, xc⟩, ⟨ya, yn, yc⟩⟩)) ⟨some ⟨g, 0, none⟩, v.f.length, c5⟩ ((HA1.out.imp fun x y h => ⟨h.1, h.2.below hf⟩).set ⟨rfl, HXX.out.below hf⟩ k) ?_
        rw [List.length_set]
        have q := (R6.base (Nat.zero_le W1.heap.size)).setCell_other ⟨w.heap.size, 4, none⟩ (.slice (some ⟨g, 0, none⟩) v.f.length c5) HN.out.1
        exact ((((q.setCell_other ⟨w.heap.size + 1 + 1 + 1, 0, none⟩ _ HN.out.2).setCell_other ⟨w.heap.size + 1 + 1 + 1, 1, none⟩ _ HN.out.2).setCell_other ⟨w.heap.size + 1 + 1 + 1, 2, none⟩ _ HN.out.2).setCell_other ⟨w.heap.size + 1 + 1 + 1, 3, none⟩ _ HN.out.2).setCell_other ⟨w.heap.size + 1 + 1 + 1, 4, none⟩ _ HN.out.2
  · have q : (rk != 5) = true := by simpa using h5
    have HV : Hid (setV v name x = v) := hid_mk (if_neg (by rw [← p1]; exact h5))
    clear p1
    go_enter Tryd.func17, Tryd.ntmps17
    go_wp2_with fail
    (try simp only [Exit.inBlock, Exit.then])
    refine bodyPost_ret (v := (⟨rk, ri, rt, ⟨la, ln, lc⟩, ⟨fa, fn, fc⟩⟩ : Rv).agg) ?_ rfl ?_
    · simp [results, Tryd.results17, go_sem, Rv.agg, Sl.v, *]
    · have hf : Below w.heap.size w ((((w.alloc (.cells #[.int .i64 rk, .int .i64 ri, .string rt, .slice la ln lc, .slice fa fn fc] 28)).alloc (.cells #[.string name] 9)).alloc (.cells #[.int .i64 xk, .int .i64 xi, .string xt, .slice xa xn xc, .slice ya yn yc] 28)).alloc (.cells #[.int .i64 rk, .int .i64 ri, .string rt, .slice la ln lc, .slice fa fn fc] 28)) := bthen (bthen (bthen (balloc _) (balloc _)) (balloc _)) (balloc _)
      exact ⟨⟨rk, ri, rt, ⟨la, ln, lc⟩, ⟨fa, fn, fc⟩⟩, rfl, by rw [HV.out]; exact RdW.below HR.out hf, hf⟩

end Go.Proofs.YtmeebjjdceokeaaDoor
