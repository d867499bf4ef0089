/- A walk in memory; the least entry of a key; from a key on. -/
import Derived.Test.YtanomhjekdefeaaWalkPure
import Derived.Test.YtanomhjekdefeaaTreeS
import Derived.Test.YtanomhjekdefeaaTreeV
import Derived.Test.YtanomhjekdefeaaTreeU
import Derived.Test.YtanomhjekdefeaaTreeX
import Derived.Test.YtanomhjekdefeaaQuietB
import Derived.Deep.DeepCutAuto
namespace Go.Proofs.Ytanomhjekdefeaa
open Go.RowKit
set_option linter.unusedVariables false
attribute [local go_sem ↓] Go.wp_at_zero Go.wp_at_succ

/-- A walk through a tree, in one block. -/
def Wk (w : World) (p tp : Nat) (r : Rg) (m : Mk) : Prop :=
  w.heap[p]? = some (.cells #[.pointer (some ⟨tp, 0, none⟩), .string r.f, .string r.t, .bool r.dn, .string m.e.key, .int .i64 m.e.id, .bool m.b] 61 (0, 0))
theorem Wk.lt {w : World} {p tp : Nat} {r : Rg} {m : Mk} (h : Wk w p tp r m) : p < w.heap.size := lt_of_block h
theorem Wk.below {w w' : World} {p tp : Nat} {r : Rg} {m : Mk} (h : Wk w p tp r m) (hb : Below w.heap.size w w') : Wk w' p tp r m := below_block hb h.lt h
structure WkC (w : World) (p tp : Nat) (r : Rg) (m : Mk) : Prop where
  c0 : w.cell? ⟨p, 0, none⟩ = some (.pointer (some ⟨tp, 0, none⟩))
  c1 : w.cell? ⟨p, 1, none⟩ = some (.string r.f)
  c2 : w.cell? ⟨p, 2, none⟩ = some (.string r.t)
  c3 : w.cell? ⟨p, 3, none⟩ = some (.bool r.dn)
  c4 : w.cell? ⟨p, 4, none⟩ = some (.string m.e.key)
  c5 : w.cell? ⟨p, 5, none⟩ = some (.int .i64 m.e.id)
  c6 : w.cell? ⟨p, 6, none⟩ = some (.bool m.b)
theorem Wk.cells {w : World} {p tp : Nat} {r : Rg} {m : Mk} (h : Wk w p tp r m) : WkC w p tp r m :=
  ⟨(cell_of_row w p 0 _ _ _ h).trans rfl, (cell_of_row w p 1 _ _ _ h).trans rfl, (cell_of_row w p 2 _ _ _ h).trans rfl, (cell_of_row w p 3 _ _ _ h).trans rfl, (cell_of_row w p 4 _ _ _ h).trans rfl, (cell_of_row w p 5 _ _ _ h).trans rfl, (cell_of_row w p 6 _ _ _ h).trans rfl⟩

theorem low_any (k : ByteArray) (w : World) :
    Calls Try.prog 44 #[.string k] w fun r w' => r = .returned (.agg #[.string (low k).key, .int .i64 (low k).id]) ∧ Below w.heap.size w w' := by
  go_enter Try.func44, Try.ntmps44
  go_wp2_with fail
  (try simp only [Exit.inBlock, Exit.then])
  refine bodyPost_ret (v := .agg #[.string k, .int .i64 (-9223372036854775808)]) ?_ rfl ?_
  · simp [results, Try.results44, go_sem, *]
  · exact ⟨rfl, balloc _⟩

set_option maxHeartbeats 2000000 in
set_option maxRecDepth 100000 in
theorem from_any (B p tp : Nat) (L : List E) (F : Nat → Prop) (r : Rg) (m : Mk) (k : ByteArray) (w : World) (X : Wk w p tp r m) (H : Tree B w tp L F) :
    Calls Try.prog 41 #[.pointer (some ⟨p, 0, none⟩), .string k] w fun e w' => e = .returned (.tuple #[.agg #[.string (fromE L k).1.key, .int .i64 (fromE L k).1.id], .bool (fromE L k).2]) ∧ Below w.heap.size w w' := by
  have HX := hid_mk X
  have HT := hid_mk H
  have hp := X.lt
  clear X H
  go_enter Try.func41, Try.ntmps41
  go_wp2_with fail
  refine (low_any k _).mono ?_
  rintro r w1 ⟨rfl, b1⟩
  obtain ⟨q, hq⟩ : ∃ q, q = low k := ⟨_, rfl⟩
  rw [← hq]
  have HQ := hid_mk hq
  have bb := bthen (balloc (w := w) _) b1
  have hs1 : w.heap.size < w1.heap.size := by have := b1.size; simp at this; omega
  have X1 := below_block b1 (by simp) (heap_alloc_new w _)
  have bw : Below w.heap.size w (w1.alloc (.cells #[.string q.key, .int .i64 q.id] 34)) := bthen bb (balloc _)
  have X2 : Hid ((w1.alloc (.cells #[.string q.key, .int .i64 q.id] 34)).heap[w.heap.size]? = _) := hid_mk ((heap_alloc_old w1 _ hs1).trans X1)
  have Y2 := heap_alloc_new w1 (.cells #[.string q.key, .int .i64 q.id] 34)
  clear hq b1 bb X1
  go_wp2_with fail
  obtain ⟨w2, hw2⟩ : ∃ w2, w2 = w1.alloc (.cells #[.string q.key, .int .i64 q.id] 34) := ⟨_, rfl⟩
  rw [← hw2] at bw X2 Y2 ⊢
  have HW2 := hid_mk hw2
  clear hw2
  have XW := HX.out.below bw
  have HT2 := hid_mk (HT.out.below bw)
  have p0 := XW.cells.c0
  have y0 := (cell_of_row w2 _ 0 _ _ _ Y2).trans rfl
  have y1 := (cell_of_row w2 _ 1 _ _ _ Y2).trans rfl
  have bd : Below w2.heap.size w2 w2.drew := pw_below (n := 1) (Below.refl _ _)
  have z0 : w2.drew.cell? ⟨p, 0, none⟩ = some (.pointer (some ⟨tp, 0, none⟩)) := p0
  have z1 : w2.drew.cell? ⟨w1.heap.size, 0, none⟩ = some (.string q.key) := y0
  have z2 : w2.drew.cell? ⟨w1.heap.size, 1, none⟩ = some (.int .i64 q.id) := y1
  have hw2s : w.heap.size < w2.heap.size := lt_of_block X2.out
  go_region_held3 (fun w' => w'.cell? ⟨p, 0, none⟩ = some (.pointer (some ⟨tp, 0, none⟩)) ∧ w'.cell? ⟨w1.heap.size, 0, none⟩ = some (.string q.key) ∧ w'.cell? ⟨w1.heap.size, 1, none⟩ = some (.int .i64 q.id))
    ((first | go_keep | exact ⟨K0, K1, K2⟩))
    ((go_at_call 56; refine (has_any B tp L F q _ (HT2.out.below bd)).mono ?_; rintro r w3 ⟨rfl, b3⟩; have K0 := keep_cell b3 z0; have K1 := keep_cell b3 z1; have K2 := keep_cell b3 z2))
  have bw3 := bw.trans ((bd.trans (b3.mono (by show _ ≤ w2.heap.size; exact Nat.le_refl _))).mono bw.size)
  have X3 := below_block (bd.trans (b3.mono (by show _ ≤ w2.heap.size; exact Nat.le_refl _))) hw2s X2.out
  have k0 := (cell_of_row w3 _ 0 _ _ _ X3).trans rfl
  have k1 := (cell_of_row w3 _ 1 _ _ _ X3).trans rfl
  have kf0 : w3.frozen? ⟨w.heap.size, 0, none⟩ = false := by simp [World.frozen?, X3]
  have kf1 : w3.frozen? ⟨w.heap.size, 1, none⟩ = false := by simp [World.frozen?, X3]
  have HB3 := hid_mk bw3
  clear p0 y0 y1 z0 z1 z2 b3 bd X2 Y2 XW
  by_cases hin : q ∈ L
  · have HF : Hid (fromE L k = (q, true)) := hid_mk (by unfold fromE; rw [← HQ.out, if_pos hin])
    go_wp2_with fail
    (try simp only [Exit.inBlock, Exit.then])
    refine bodyPost_ret (v := .tuple #[.agg #[.string q.key, .int .i64 q.id], .bool true]) ?_ rfl ?_
    · simp [results, Try.results41, go_sem, *]
    · exact ⟨by rw [HF.out], (HB3.out.setCell (by simp) _).setCell (by simp) _⟩
  · have HF : Hid (fromE L k = hd (above q L)) := hid_mk (by unfold fromE; rw [← HQ.out, if_neg hin])
    have HT3 := hid_mk (HT.out.below HB3.out)
    have HX3 := hid_mk X3
    have hs3 : w.heap.size < w3.heap.size := lt_of_block X3
    have bd : Below w3.heap.size w3 w3.drew := pw_below (n := 1) (Below.refl _ _)
    have z0 : w3.drew.cell? ⟨p, 0, none⟩ = some (.pointer (some ⟨tp, 0, none⟩)) := K0
    have z1 : w3.drew.cell? ⟨w1.heap.size, 0, none⟩ = some (.string q.key) := K1
    have z2 : w3.drew.cell? ⟨w1.heap.size, 1, none⟩ = some (.int .i64 q.id) := K2
    obtain ⟨x, hx⟩ : ∃ x, x = hd (above q L) := ⟨_, rfl⟩
    rw [← hx] at HF
    have HXX := hid_mk hx
    clear k0 k1 kf0 kf1 X3 hx bw3
    go_wp2_with fail
    go_region_held3 (fun w' => w'.cell? ⟨p, 0, none⟩ = some (.pointer (some ⟨tp, 0, none⟩)) ∧ w'.cell? ⟨w1.heap.size, 0, none⟩ = some (.string q.key) ∧ w'.cell? ⟨w1.heap.size, 1, none⟩ = some (.int .i64 q.id))
      ((first | go_keep | exact ⟨J0, J1, J2⟩ | (refine ⟨?_, ?_, ?_⟩ <;> (rw [World.cell?_setCell_other _ _ _ _ (by intro e9; injection e9 <;> omega), World.cell?_setCell_other _ _ _ _ (by intro e9; injection e9 <;> omega)]; assumption))))
      ((go_at_call 40; refine (after_any B tp L F q _ (HT3.out.below bd)).mono ?_; rintro r w4 ⟨rfl, b4⟩; have J0 := keep_cell b4 z0; have J1 := keep_cell b4 z1; have J2 := keep_cell b4 z2; rw [← HXX.out];
        have X4 := below_block (bd.trans (b4.mono (by show _ ≤ w3.heap.size; exact Nat.le_refl _))) hs3 HX3.out;
        have k0 := (cell_of_row w4 _ 0 _ _ _ X4).trans rfl;
        have k1 := (cell_of_row w4 _ 1 _ _ _ X4).trans rfl;
        have kf0 : w4.frozen? ⟨w.heap.size, 0, none⟩ = false := by simp [World.frozen?, X4];
        have kf1 : w4.frozen? ⟨w.heap.size, 1, none⟩ = false := by simp [World.frozen?, X4];
        have HB4 := hid_mk (HB3.out.trans ((bd.trans (b4.mono (by show _ ≤ w3.heap.size; exact Nat.le_refl _))).mono HB3.out.size)); clear X4))
    go_wp2_with fail
    (try simp only [Exit.inBlock, Exit.then])
    refine bodyPost_ret (v := .tuple #[.agg #[.string x.1.key, .int .i64 x.1.id], .bool x.2]) ?_ rfl ?_
    · simp [results, Try.results41, go_sem, *]
    · exact ⟨by rw [HF.out], (HB4.out.setCell (by simp) _).setCell (by simp) _⟩

end Go.Proofs.Ytanomhjekdefeaa
