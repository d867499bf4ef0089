/- Values out of bytes: one, Made, Of. -/
import Derived.Test.YtmeebjjdceokeaaDoorVal
import Derived.Lib.AppendZeros
namespace Go.Proofs.YtmeebjjdceokeaaDoor
open Go.RowKit
set_option linter.unusedVariables false
attribute [local go_sem ↓] Go.wp_at_zero Go.wp_at_succ

theorem one_any (c : Int) (w : World) (h0 : 0 ≤ c ∧ c ≤ 255) : Calls Tryd.prog 42 #[.int .u8 c] w fun e w' => ∃ x, e = .returned (.int .i64 x) ∧ w = w' := by
  go_enter Tryd.func42, Tryd.ntmps42
  go_wp2_with fail
  all_goals
    go_ret
    exact ⟨_, rfl, rfl⟩

/-- Bytes that came in, in a block below lo. -/
def Bytes (lo : Nat) (w : World) (A : Option Addr) (n cap : Nat) (zs : List Int) : Prop :=
  zs.length = n ∧ n ≤ cap ∧ cap ≤ 9223372036854775807 ∧ (0 < n → ∃ b off, A = some ⟨b, off, none⟩ ∧ b < lo ∧ ∀ i, i < n → w.cell? ⟨b, off + i, none⟩ = some (.int .u8 (zs.getD i 0))) ∧ ∀ z ∈ zs, 0 ≤ z ∧ z ≤ 255
theorem Bytes.none_ {lo : Nat} {w : World} : Bytes lo w none 0 0 [] := ⟨rfl, Nat.le_refl _, by omega, fun h => absurd h (by omega), fun z hz => absurd hz (by simp)⟩
theorem Bytes.below {lo : Nat} {w w' : World} {A : Option Addr} {n cap : Nat} {zs : List Int} (h : Bytes lo w A n cap zs) (b : Below lo w w') : Bytes lo w' A n cap zs := by
  obtain ⟨h1, h2, h3, h4, h5⟩ := h
  refine ⟨h1, h2, h3, fun h0 => ?_, h5⟩
  obtain ⟨b', off, hA, hb, hc⟩ := h4 h0
  exact ⟨b', off, hA, hb, fun i hi => (World.cell?_of_block (b.block b' hb)).trans (hc i hi)⟩
theorem Bytes.tail {lo : Nat} {w : World} {A : Option Addr} {n cap : Nat} {xs : List Int} (h : Bytes lo w A (n + 1) cap xs) : ∃ b off, A = some ⟨b, off, none⟩ ∧ b < lo ∧ w.cell? ⟨b, off, none⟩ = some (.int .u8 (xs.getD 0 0)) ∧
    ∀ A', (n = 0 ∨ A' = some ⟨b, off + 1, none⟩) → Bytes lo w A' n (cap - 1) (xs.drop 1) := by
  obtain ⟨h1, h2, h3, h4, h5⟩ := h
  obtain ⟨b, off, rfl, hb, hc⟩ := h4 (by omega)
  refine ⟨b, off, rfl, hb, hc 0 (by omega), fun A' hA => ⟨by rw [List.length_drop]; omega, by omega, by omega, fun h0 => ?_, fun z hz => h5 z (List.mem_of_mem_drop hz)⟩⟩
  rcases hA with hA | rfl
  · omega
  · refine ⟨b, off + 1, rfl, hb, fun i hi => ?_⟩
    have h9 := hc (i + 1) (by omega)
    rw [show off + 1 + i = off + (i + 1) by omega, h9]
    rw [List.getD_eq_getElem?_getD, List.getD_eq_getElem?_getD, List.getElem?_drop, Nat.add_comm 1 i]

/-- What Made hands back. -/
def MadeSaid (lo d : Nat) (w : World) (e : Ending) (w' : World) : Prop :=
  ∃ v r A n cap zs, e = .returned (.tuple #[r.agg, .slice A n cap]) ∧ Rd (fun b => w.heap.size ≤ b ∧ b < w'.heap.size) d w' v r ∧ VGood d v ∧ Bytes lo w' A n cap zs ∧ Below w.heap.size w w'

/-- And, where the first byte asks for it, an object. -/
def MadeO (ob : Prop) (lo d : Nat) (w : World) (e : Ending) (w' : World) : Prop :=
  ∃ v r A n cap zs, e = .returned (.tuple #[r.agg, .slice A n cap]) ∧ Rd (fun b => w.heap.size ≤ b ∧ b < w'.heap.size) d w' v r ∧ VGood d v ∧ Bytes lo w' A n cap zs ∧ Below w.heap.size w w' ∧ (ob → v.k = 5)
theorem MadeO.said {ob : Prop} {lo d : Nat} {w w' : World} {e : Ending} (h : MadeO ob lo d w e w') : MadeSaid lo d w e w' := by
  obtain ⟨v, r, A, n, cap, zs, h1, h2, h3, h4, h5, _⟩ := h
  exact ⟨v, r, A, n, cap, zs, h1, h2, h3, h4, h5⟩
theorem MadeSaid.no {ob : Prop} {lo d : Nat} {w w' : World} {e : Ending} (h : MadeSaid lo d w e w') (hn : ¬ ob) : MadeO ob lo d w e w' := by
  obtain ⟨v, r, A, n, cap, zs, h1, h2, h3, h4, h5⟩ := h
  exact ⟨v, r, A, n, cap, zs, h1, h2, h3, h4, h5, fun h => absurd h hn⟩

theorem infoV : (Tryd.prog.info? 28).map (fun i => (i.zero, i.size, i.bytes)) = some (some zR.agg, 5, 80) := by kernel_rfl
theorem infoF : (Tryd.prog.info? 31).map (fun i => (i.zero, i.size, i.bytes)) = some (some (.agg #[.string ⟨#[]⟩, .int .i64 0, .int .i64 0, .string ⟨#[]⟩, .slice none 0 0, .slice none 0 0]), 6, 96) := by kernel_rfl
/-- One more value behind a row. -/
theorem push_val {B : Nat} {w : World} {A : Option Addr} {n cap : Nat} {xs : List Value} (h : Rw B w 28 5 (.slice A n cap) n xs) (hB : B ≤ w.heap.size) (r : Rv) (hlen : n < 100001) (q : Nat) (hq : q = w.heap.size) :
    ∃ A3 cap3 w3, (Builtin.append_ #[25, 25] 25 #[.slice A n cap, .slice (some ⟨q, 0, none⟩) 1 1]).run Tryd.prog (w.alloc (.cells r.cs.toArray 28)) = .ok (.slice A3 (n + 1) cap3) w3 ∧
      Rw B w3 28 5 (.slice A3 (n + 1) cap3) (n + 1) (xs ++ r.cs) ∧ Mv (own (.slice A n cap)) (own (.slice A3 (n + 1) cap3)) w w3 := by
  subst hq
  obtain ⟨i0, hi0, hz0, hzs, hzb⟩ := info_parts infoV
  obtain ⟨v3, w3, hr, R3, M3⟩ := run_app_rw (P := Tryd.prog) (h.below (balloc (.cells r.cs.toArray 28))) (by simp; omega) 25 25 i0 _ 80 Tryd.underlying25 hi0 hz0 hzs hzb rfl (by omega) ⟨w.heap.size, 0, none⟩ 1 1 (by omega) r.cs rfl
    (fun j u hu => by rw [add0, cell_of_row _ _ _ _ _ _ (heap_alloc_new w _)]; simpa using hu) (rv_one r) (by omega) (by omega)
  obtain ⟨A3, c3, rfl, _, _, _⟩ := R3.shape
  exact ⟨A3, c3, w3, hr, R3, (Mv.of_below (F := own (.slice A n cap)) (balloc _)).trans M3⟩
/-- One more field behind a row; behind a draw. -/
theorem push_fld {B : Nat} {w : World} {A : Option Addr} {n cap : Nat} {xs : List Value} (h : Rw B w 31 6 (.slice A n cap) n xs) (hB : B ≤ w.heap.size) (r : Fv) (hlen : n < 100001) (q : Nat) (hq : q = w.heap.size) :
    ∃ A3 cap3 w3, (Builtin.append_ #[26, 26] 26 #[.slice A n cap, .slice (some ⟨q, 0, none⟩) 1 1]).run Tryd.prog (w.alloc (.cells (Fv.cs r).toArray 31)).drew = .ok (.slice A3 (n + 1) cap3) w3 ∧
      Rw B w3 31 6 (.slice A3 (n + 1) cap3) (n + 1) (xs ++ Fv.cs r) ∧ Mv (own (.slice A n cap)) (own (.slice A3 (n + 1) cap3)) w w3 := by
  subst hq
  obtain ⟨i0, hi0, hz0, hzs, hzb⟩ := info_parts infoF
  have bb : Below w.heap.size w (w.alloc (.cells (Fv.cs r).toArray 31)).drew := pw_below (n := 1) (balloc _)
  have HN : (w.alloc (.cells (Fv.cs r).toArray 31)).drew.heap[w.heap.size]? = some (.cells (Fv.cs r).toArray 31 (0, 0)) := heap_alloc_new w _
  obtain ⟨v3, w3, hr, R3, M3⟩ := run_app_rw (P := Tryd.prog) (h.below bb) (Nat.le_trans hB bb.size) 26 26 i0 _ 96 Tryd.underlying26 hi0 hz0 hzs hzb rfl (by omega) ⟨w.heap.size, 0, none⟩ 1 1 (by omega) (Fv.cs r) rfl
    (fun j u hu => by rw [add0, cell_of_row _ _ _ _ _ _ HN]; simpa using hu) (fv_one r) (by omega) (by omega)
  obtain ⟨A3, c3, rfl, _, _, _⟩ := R3.shape
  exact ⟨A3, c3, w3, hr, R3, (Mv.of_below (F := own (.slice A n cap)) bb).trans M3⟩
/-- The blocks of parts, while their row grows: not the row's own, not the box's. -/
def KP (lo VB : Nat) (sl : Value) (w : World) (b : Nat) : Prop := lo ≤ b ∧ b < w.heap.size ∧ ¬ own sl b ∧ b ≠ VB
theorem kids_same {lo VB c : Nat} {sl sl' u : Value} {wr w1 w2 w3 : World} (b1 : Below wr.heap.size wr w1) (bz : Below w1.heap.size w1 w2) (m3 : Mv (own sl) (own sl') w2 w3) :
    (∀ b, KP lo VB sl wr b → KP lo VB sl' (w3.setCell ⟨VB, c, none⟩ u) b) ∧ (∀ b, KP lo VB sl wr b → (w3.setCell ⟨VB, c, none⟩ u).heap[b]? = wr.heap[b]?) := by
  have hs1 := b1.size
  have hs2 := bz.size
  have hs3 := m3.size
  refine ⟨fun b ⟨h1, h2, h3, h4⟩ => ⟨h1, by simp; omega, fun h9 => ?_, h4⟩, fun b ⟨h1, h2, h3, h4⟩ => ?_⟩
  · rcases m3.new b h9 with h8 | h8
    · exact h3 h8
    · omega
  · rw [heap_setCell_other _ _ _ _ h4, m3.block b (by omega) h3, bz.block b (by omega), b1.block b h2]
theorem kid_new {lo VB c : Nat} {sl sl' u : Value} {wr w1 w2 w3 : World} (hlo : lo ≤ wr.heap.size) (hVB : VB < wr.heap.size) (hsl : ∀ b, own sl b → b < wr.heap.size) (bz : Below w1.heap.size w1 w2) (m3 : Mv (own sl) (own sl') w2 w3) :
    (∀ b, (wr.heap.size ≤ b ∧ b < w1.heap.size) → KP lo VB sl' (w3.setCell ⟨VB, c, none⟩ u) b) ∧ (∀ b, (wr.heap.size ≤ b ∧ b < w1.heap.size) → (w3.setCell ⟨VB, c, none⟩ u).heap[b]? = w1.heap[b]?) := by
  have hs2 := bz.size
  have hs3 := m3.size
  refine ⟨fun b ⟨h1, h2⟩ => ⟨by omega, by simp; omega, fun h9 => ?_, by omega⟩, fun b ⟨h1, h2⟩ => ?_⟩
  · rcases m3.new b h9 with h8 | h8
    · have := hsl b h8; omega
    · omega
  · rw [heap_setCell_other _ _ _ _ (show b ≠ VB by omega), m3.block b (by omega) (fun h9 => by have := hsl b h9; omega), bz.block b h2]

theorem made_plain {lo dd : Nat} {w w' : World} {A : Option Addr} {n cap : Nat} {zs : List Int} (k i : Int) (t : ByteArray) (h0 : 0 ≤ k) (h5 : k ≤ 5) (hB : Bytes lo w' A n cap zs) (b : Below w.heap.size w w') :
    MadeSaid lo (dd + 1) w (.returned (.tuple #[.agg #[.int .i64 k, .int .i64 i, .string t, .slice none 0 0, .slice none 0 0], .slice A n cap])) w' :=
  ⟨.mk k i t [] [], ⟨k, i, t, ⟨none, 0, 0⟩, ⟨none, 0, 0⟩⟩, A, n, cap, zs, rfl, Rd.plain dd k i t, VGood.plain dd k i t h0 h5, hB, b⟩

theorem set5_at {b : Nat} {wr : World} (u0 u1 u2 u3 u4 : Value) (w5 : World) (h5 : w5 = ((((wr.setCell ⟨b, 0, none⟩ u0).setCell ⟨b, 1, none⟩ u1).setCell ⟨b, 2, none⟩ u2).setCell ⟨b, 3, none⟩ u3).setCell ⟨b, 4, none⟩ u4) :
    w5.heap.size = wr.heap.size ∧ ∀ k, k ≠ b → w5.heap[k]? = wr.heap[k]? := by
  subst h5
  refine ⟨by simp, fun k hk => ?_⟩
  rw [heap_setCell_other _ _ _ _ hk, heap_setCell_other _ _ _ _ hk, heap_setCell_other _ _ _ _ hk, heap_setCell_other _ _ _ _ hk, heap_setCell_other _ _ _ _ hk]
theorem set5_below {w : World} {B b : Nat} (hb : B ≤ b) {w1 : World} (h : Below B w w1) (u0 u1 u2 u3 u4 : Value) : Below B w (((((w1.setCell ⟨b, 0, none⟩ u0).setCell ⟨b, 1, none⟩ u1).setCell ⟨b, 2, none⟩ u2).setCell ⟨b, 3, none⟩ u3).setCell ⟨b, 4, none⟩ u4) :=
  ((((h.setCell (p := ⟨b, 0, none⟩) hb u0).setCell (p := ⟨b, 1, none⟩) hb u1).setCell (p := ⟨b, 2, none⟩) hb u2).setCell (p := ⟨b, 3, none⟩) hb u3).setCell (p := ⟨b, 4, none⟩) hb u4
theorem nameN_lt : ∀ i k : Nat, i < k → k < 4 → cb (nameN i).data.toList (nameN k).data.toList < 0 := by
  intro i k h1 h2
  rcases (by omega : (i = 0 ∧ k = 1) ∨ (i = 0 ∧ k = 2) ∨ (i = 0 ∧ k = 3) ∨ (i = 1 ∧ k = 2) ∨ (i = 1 ∧ k = 3) ∨ (i = 2 ∧ k = 3)) with ⟨rfl, rfl⟩ | ⟨rfl, rfl⟩ | ⟨rfl, rfl⟩ | ⟨rfl, rfl⟩ | ⟨rfl, rfl⟩ | ⟨rfl, rfl⟩ <;> decide
theorem names_snoc {ls : List (ByteArray × V)} {k : Nat} {nm : ByteArray} {v : V} (U : namesUp ls) (hG : ∀ x ∈ ls, ∃ i, i < k ∧ x.1 = nameN i) (hk : k < 4) (hn : nm = nameN k) : namesUp (ls ++ [(nm, v)]) := by
  refine List.pairwise_append.2 ⟨U, List.pairwise_singleton _ _, fun x hx y hy => ?_⟩
  obtain ⟨i, hi, he⟩ := hG x hx
  simp at hy
  subst hy
  rw [he, hn]
  exact nameN_lt i k hi hk
theorem made_list {lo dd : Nat} {w wr : World} {A : Option Addr} {n cap : Nat} {zs : List Int} {sl : Sl} {ls : List V} {rs : List Rv} (T : Bytes lo wr A n cap zs)
    (R : Rw (w.heap.size + 2) wr 28 5 sl.v rs.length (vcells rs)) (K : All2 (Rd (KP (w.heap.size + 2) (w.heap.size + 1) sl.v wr) dd wr) ls rs) (G : ∀ x ∈ ls, VGood dd x) (B : Below w.heap.size w wr) (hl : ls.length ≤ 3) (hlo : lo ≤ w.heap.size)
    (u0 u1 u2 u3 u4 : Value) : MadeSaid lo (dd + 1) w (.returned (.tuple #[.agg #[.int .i64 4, .int .i64 0, .string ⟨#[]⟩, sl.v, .slice none 0 0], .slice A n cap]))
      (((((wr.setCell ⟨w.heap.size, 0, none⟩ u0).setCell ⟨w.heap.size, 1, none⟩ u1).setCell ⟨w.heap.size, 2, none⟩ u2).setCell ⟨w.heap.size, 3, none⟩ u3).setCell ⟨w.heap.size, 4, none⟩ u4) := by
  have hB := set5_below (Nat.le_refl _) B u0 u1 u2 u3 u4
  have hT := T.below (set5_below hlo (Below.refl lo wr) u0 u1 u2 u3 u4)
  obtain ⟨w5, h5⟩ : ∃ w5, w5 = ((((wr.setCell ⟨w.heap.size, 0, none⟩ u0).setCell ⟨w.heap.size, 1, none⟩ u1).setCell ⟨w.heap.size, 2, none⟩ u2).setCell ⟨w.heap.size, 3, none⟩ u3).setCell ⟨w.heap.size, 4, none⟩ u4 := ⟨_, rfl⟩
  obtain ⟨hs, hk⟩ := set5_at u0 u1 u2 u3 u4 w5 h5
  rw [← h5] at hB hT ⊢
  refine ⟨.mk 4 0 ⟨#[]⟩ ls [], ⟨4, 0, ⟨#[]⟩, sl, ⟨none, 0, 0⟩⟩, A, n, cap, zs, rfl, ⟨rfl, rfl, rfl, ⟨rs, K.imp fun x y h => Rd.stays (fun b h9 => ⟨by have := h9.1; omega, by have := h9.2.1; omega⟩) (fun b h9 => hk b (by have := h9.1; omega)) dd x y h, ?_, ?_⟩, ⟨[], .nil, Rw.nil _ _ _ _, fun b h => by simp [own, Sl.v, Value.ownBlock] at h⟩⟩, ?_, hT, hB⟩
  · show Rw 0 w5 _ 5 sl.v ls.length (vcells rs)
    rw [K.length]
    exact (R.stays fun k hk2 => hk k (by have := (R.lt k hk2).1; omega)).base (Nat.zero_le _)
  · intro b hb
    have := R.lt b hb
    omega
  · exact ⟨(by show (0 : Int) ≤ 4; omega), (by show (4 : Int) ≤ 5; omega), fun h => absurd rfl h, fun _ => rfl, G, fun x hx => absurd hx (by simp [V.f]), List.Pairwise.nil, hl, by simp [V.f]⟩
theorem made_flds {ob : Prop} {lo dd : Nat} {w wr : World} {A : Option Addr} {n cap : Nat} {zs : List Int} {sl : Sl} {ls : List (ByteArray × V)} {rs : List Fv} (T : Bytes lo wr A n cap zs)
    (R : Rw (w.heap.size + 2) wr 31 6 sl.v rs.length (fcells rs)) (K : All2 (fun x y => x.1 = y.1 ∧ Rd (KP (w.heap.size + 2) (w.heap.size + 1) sl.v wr) dd wr x.2 y.2) ls rs) (G : ∀ x ∈ ls, VGood dd x.2) (U : namesUp ls) (B : Below w.heap.size w wr) (hl : ls.length ≤ 4) (hlo : lo ≤ w.heap.size)
    (u0 u1 u2 u3 u4 : Value) : MadeO ob lo (dd + 1) w (.returned (.tuple #[.agg #[.int .i64 5, .int .i64 0, .string ⟨#[]⟩, .slice none 0 0, sl.v], .slice A n cap]))
      (((((wr.setCell ⟨w.heap.size, 0, none⟩ u0).setCell ⟨w.heap.size, 1, none⟩ u1).setCell ⟨w.heap.size, 2, none⟩ u2).setCell ⟨w.heap.size, 3, none⟩ u3).setCell ⟨w.heap.size, 4, none⟩ u4) := by
  have hB := set5_below (Nat.le_refl _) B u0 u1 u2 u3 u4
  have hT := T.below (set5_below hlo (Below.refl lo wr) u0 u1 u2 u3 u4)
  obtain ⟨w5, h5⟩ : ∃ w5, w5 = ((((wr.setCell ⟨w.heap.size, 0, none⟩ u0).setCell ⟨w.heap.size, 1, none⟩ u1).setCell ⟨w.heap.size, 2, none⟩ u2).setCell ⟨w.heap.size, 3, none⟩ u3).setCell ⟨w.heap.size, 4, none⟩ u4 := ⟨_, rfl⟩
  obtain ⟨hs, hk⟩ := set5_at u0 u1 u2 u3 u4 w5 h5
  rw [← h5] at hB hT ⊢
  refine ⟨.mk 5 0 ⟨#[]⟩ [] ls, ⟨5, 0, ⟨#[]⟩, ⟨none, 0, 0⟩, sl⟩, A, n, cap, zs, rfl, ⟨rfl, rfl, rfl, ⟨[], .nil, Rw.nil _ _ _ _, fun b h => by simp [own, Sl.v, Value.ownBlock] at h⟩, ⟨rs, K.imp fun x y h => ⟨h.1, Rd.stays (fun b h9 => ⟨by have := h9.1; omega, by have := h9.2.1; omega⟩) (fun b h9 => hk b (by have := h9.1; omega)) dd x.2 y.2 h.2⟩, ?_, ?_⟩⟩, ?_, hT, hB, fun _ => rfl⟩
  · show Rw 0 w5 _ 6 sl.v ls.length (fcells rs)
    rw [K.length]
    exact (R.stays fun k hk2 => hk k (by have := (R.lt k hk2).1; omega)).base (Nat.zero_le _)
  · intro b hb
    have := R.lt b hb
    omega
  · exact ⟨(by show (0 : Int) ≤ 5; omega), (by show (5 : Int) ≤ 5; omega), fun _ => rfl, fun h => absurd rfl h, fun x hx => absurd hx (by simp [V.l]), G, U, by simp [V.l], hl⟩

set_option maxHeartbeats 8000000 in
set_option maxRecDepth 100000 in
theorem made_step (lo dd : Nat) (hd4 : dd ≤ 3) (IH : 1 ≤ dd → ∀ (A : Option Addr) (n cap : Nat) (zs : List Int) (w : World), lo ≤ w.heap.size → Bytes lo w A n cap zs → Tabs w → Calls Tryd.prog 21 #[.slice A n cap, .int .i64 (dd : Int)] w (MadeSaid lo dd w))
    (A : Option Addr) (n cap : Nat) (zs : List Int) (w : World) (hlo : lo ≤ w.heap.size) (hb : Bytes lo w A n cap zs) (ht : Tabs w) :
    Calls Tryd.prog 21 #[.slice A n cap, .int .i64 ((dd : Int) + 1)] w (MadeO (0 < n ∧ zs.getD 0 0 % 6 = 5 ∧ 1 ≤ dd) lo (dd + 1) w) := by
  have HIH := hid_mk IH
  have X0 := heap_alloc_new w (.cells #[.int .i64 0, .int .i64 0, .string ⟨#[]⟩, .slice none 0 0, .slice none 0 0] 28)
  have bw : Below w.heap.size w (w.alloc (.cells #[.int .i64 0, .int .i64 0, .string ⟨#[]⟩, .slice none 0 0, .slice none 0 0] 28)) := balloc _
  clear IH
  rcases n with _ | n
  · have HB := hid_mk hb
    go_enter Tryd.func21, Tryd.ntmps21
    go_wp2_with fail
    (try simp only [Exit.inBlock, Exit.then])
    refine bodyPost_ret (v := .tuple #[zR.agg, .slice none 0 0]) ?_ rfl ?_
    · simp [results, Tryd.results21, go_sem, zR, Rv.agg, Sl.v, *]
    · exact (made_plain 0 0 ⟨#[]⟩ (by omega) (by omega) Bytes.none_ (balloc _)).no (fun h9 => by have := h9.1; omega)
  · obtain ⟨b, off, rfl, hbw, c0, htl⟩ := hb.tail
    have hc := hb.2.2.2.2 (zs.getD 0 0) (by have := hb.1; rw [List.getD_eq_getElem?_getD, List.getElem?_eq_getElem (by omega)]; exact List.getElem_mem _)
    obtain ⟨c, hce⟩ : ∃ c, c = zs.getD 0 0 := ⟨_, rfl⟩
    rw [← hce] at c0 hc
    have HCE := hid_mk hce
    obtain ⟨A', hA'⟩ : ∃ A', (if cap = 1 then some (⟨b, off, none⟩ : Addr) else some ⟨b, off + 1, none⟩) = A' := ⟨_, rfl⟩
    have HT0 := hid_mk (htl A' (by
      by_cases h1 : cap = 1
      · exact .inl (by have := hb.2.1; omega)
      · right; rw [← hA', if_neg h1]))
    have c0' := keep_cell bw c0
    have hcap1 := hb.2.1
    have hpos : (0 : Int) < ((n + 1 : Nat) : Int) := by omega
    obtain ⟨q, hq⟩ : ∃ q : Nat, c / 6 = (q : Int) := ⟨(c / 6).toNat, by omega⟩
    have hq42 : q ≤ 42 := by omega
    have hm0 : 0 ≤ c % 6 := Int.emod_nonneg _ (by omega)
    have hm6 : c % 6 < 6 := Int.emod_lt_of_pos _ (by omega)
    have HB := hid_mk hb
    clear hb htl hce
    rcases (by omega : c % 6 = 1 ∨ c % 6 = 2 ∨ c % 6 = 3 ∨ c % 6 = 4 ∨ c % 6 = 5 ∨ c % 6 = 0) with hk | hk | hk | hk | hk | hk
    · clear hm0 hm6
      go_enter Tryd.func21, Tryd.ntmps21
      go_wp2_with fail
      (try simp only [Exit.inBlock, Exit.then])
      refine bodyPost_ret (v := .tuple #[.agg #[.int .i64 1, .int .i64 ((q : Int) % 2), .string ⟨#[]⟩, .slice none 0 0, .slice none 0 0], .slice A' n (cap - 1)]) ?_ rfl ?_
      · simp [results, Tryd.results21, go_sem, *]
      · exact (made_plain 1 _ ⟨#[]⟩ (by omega) (by omega) (HT0.out.below ((balloc _).mono hlo)) (balloc _)).no (fun h9 => by have h8 := h9.2.1; have h7 := h9.2.2; rw [← HCE.out] at h8; omega)
    · have hqw : IntKind.u8.wrap (q : Int) = (q : Int) := by rw [IntKind.wrap_u8]; omega
      clear hm0 hm6
      go_enter Tryd.func21, Tryd.ntmps21
      go_wp2_with fail
      refine (one_any _ _ (by omega)).mono ?_
      rintro e w1 ⟨x, rfl, rfl⟩
      go_wp2_with fail
      (try simp only [Exit.inBlock, Exit.then])
      refine bodyPost_ret (v := .tuple #[.agg #[.int .i64 2, .int .i64 x, .string ⟨#[]⟩, .slice none 0 0, .slice none 0 0], .slice A' n (cap - 1)]) ?_ rfl ?_
      · simp [results, Tryd.results21, go_sem, *]
      · exact (made_plain 2 _ ⟨#[]⟩ (by omega) (by omega) (HT0.out.below ((balloc _).mono hlo)) (balloc _)).no (fun h9 => by have h8 := h9.2.1; have h7 := h9.2.2; rw [← HCE.out] at h8; omega)
    · obtain ⟨j, hj⟩ : ∃ j : Nat, (q : Int) % 8 = (j : Int) := ⟨q % 8, by omega⟩
      have hj8 : j < 8 := by omega
      have tj := keep_cell bw (ht.1 j hj8)
      obtain ⟨s, hs⟩ : ∃ s, s = wordN j := ⟨_, rfl⟩
      rw [← hs] at tj
      have j0 : (0 : Int) ≤ (j : Int) := by omega
      have j1 : (j : Int) < 8 := by omega
      clear hm0 hm6 hs
      go_enter Tryd.func21, Tryd.ntmps21
      go_wp2_with fail
      (try simp only [Exit.inBlock, Exit.then])
      refine bodyPost_ret (v := .tuple #[.agg #[.int .i64 3, .int .i64 0, .string s, .slice none 0 0, .slice none 0 0], .slice A' n (cap - 1)]) ?_ rfl ?_
      · simp [results, Tryd.results21, go_sem, *]
      · exact (made_plain 3 _ s (by omega) (by omega) (HT0.out.below ((balloc _).mono hlo)) (balloc _)).no (fun h9 => by have h8 := h9.2.1; have h7 := h9.2.2; rw [← HCE.out] at h8; omega)
    · by_cases hd : 1 ≤ dd
      · obtain ⟨m, hm⟩ : ∃ m : Nat, (q : Int) % 4 = (m : Int) := ⟨q % 4, by omega⟩
        have hm4 : m < 4 := by omega
        have hd1 : (1 : Int) < (dd : Int) + 1 := by omega
        clear hm0 hm6
        go_enter Tryd.func21, Tryd.ntmps21
        go_wp2_with fail
        obtain ⟨w0, hw0⟩ : ∃ w0, w0 = (w.alloc (.cells #[.int .i64 0, .int .i64 0, .string ⟨#[]⟩, .slice none 0 0, .slice none 0 0] 28)).alloc (.cells #[.int .i64 4, .int .i64 0, .string ⟨#[]⟩, .slice none 0 0, .slice none 0 0] 28) := ⟨_, rfl⟩
        have hn0 : ((n : Int) + 1 == 0) = false := beq_eq_false_iff_ne.2 (by omega)
        simp only [hn0, hq, hk]
        rw [← hw0]
        have hs0 : w0.heap.size = w.heap.size + 2 := by rw [hw0]; simp
        have B0 : Below w.heap.size w w0 := by rw [hw0]; exact bthen (balloc _) (balloc _)
        have Z0 : Hid (w0.heap[w.heap.size]? = some (.cells #[.int .i64 0, .int .i64 0, .string ⟨#[]⟩, .slice none 0 0, .slice none 0 0] 28 (0, 0))) := hid_mk (by rw [hw0, heap_alloc_old _ _ (by simp)]; exact X0)
        have Y0 : Hid (w0.heap[w.heap.size + 1]? = some (.cells #[.int .i64 4, .int .i64 0, .string ⟨#[]⟩, (⟨none, 0, 0⟩ : Sl).v, .slice none 0 0] 28 (0, 0))) := hid_mk (by
          rw [hw0]
          have h9 := heap_alloc_new (w.alloc (.cells #[.int .i64 0, .int .i64 0, .string ⟨#[]⟩, .slice none 0 0, .slice none 0 0] 28)) (.cells #[.int .i64 4, .int .i64 0, .string ⟨#[]⟩, .slice none 0 0, .slice none 0 0] 28)
          rw [World.size_alloc] at h9; exact h9)
        have T0 : Hid (Bytes lo w0 A' n (cap - 1) (zs.drop 1)) := hid_mk (HT0.out.below (B0.mono hlo))
        have R0 : Hid (Rw (w.heap.size + 2) w0 28 5 (⟨none, 0, 0⟩ : Sl).v ([] : List Rv).length (vcells [])) := hid_mk (Rw.nil _ _ _ _)
        have K0 : Hid (All2 (Rd (KP (w.heap.size + 2) (w.heap.size + 1) (⟨none, 0, 0⟩ : Sl).v w0) dd w0) [] []) := hid_mk .nil
        have G0 : Hid (∀ x ∈ ([] : List V), VGood dd x) := hid_mk fun x hx => absurd hx (by simp)
        have HTW := hid_mk ht
        have HB0 := hid_mk B0
        clear hw0 hs0 B0 HT0 X0 bw c0' c0 hA' HB ht
        go_loopw [0, 9] (fun bs iv wr => ∃ (k : Nat) (A1 : Option Addr) (n1 c1 : Nat) (z1 : List Int) (sl : Sl) (ls : List V) (rs : List Rv), iv = .int .i64 k ∧ k ≤ m ∧ bs = .slice A1 n1 c1 ∧ ls.length = k ∧ Hid (Bytes lo wr A1 n1 c1 z1) ∧
          Hid (wr.heap[w.heap.size]? = some (.cells #[.int .i64 0, .int .i64 0, .string ⟨#[]⟩, .slice none 0 0, .slice none 0 0] 28 (0, 0))) ∧
          Hid (wr.heap[w.heap.size + 1]? = some (.cells #[.int .i64 4, .int .i64 0, .string ⟨#[]⟩, sl.v, .slice none 0 0] 28 (0, 0))) ∧
          Hid (Rw (w.heap.size + 2) wr 28 5 sl.v rs.length (vcells rs)) ∧ Hid (All2 (Rd (KP (w.heap.size + 2) (w.heap.size + 1) sl.v wr) dd wr) ls rs) ∧ Hid (∀ x ∈ ls, VGood dd x) ∧ Hid (Below w.heap.size w wr)) (fun _ iv _ => m - (intOf iv).toNat)
        case atStart => exact ⟨0, A', n, cap - 1, zs.drop 1, ⟨none, 0, 0⟩, [], [], rfl, Nat.zero_le _, rfl, rfl, T0, Z0, Y0, R0, K0, G0, HB0⟩
        case round =>
          clear T0 Z0 Y0 R0 K0 G0 HB0
          obtain ⟨k, A1, n1, c1, z1, sl, ls, rs, rfl, hk, rfl, hll, T, Z, Y, R, K, G, HBW⟩ := hrel
          obtain ⟨sa, sn, sc⟩ := sl
          have HLL := hid_mk hll
          have hrl : Hid (rs.length = k) := hid_mk (by rw [← K.out.length, hll])
          clear hll
          by_cases hlt : k < m
          · have hkm : (k : Int) < (m : Int) := by omega
            have HTR := hid_mk (HTW.out.below HBW.out)
            have hsn : sn = rs.length := by
              obtain ⟨Ax, cx, hx, _⟩ := R.out.shape
              injection hx
            subst hsn
            have R' : Rw (w.heap.size + 2) wr 28 5 (.slice sa rs.length sc) rs.length (vcells rs) := R.out
            have hsl : Hid (∀ b, own (.slice sa rs.length sc) b → w.heap.size + 2 ≤ b ∧ b < wr.heap.size) := hid_mk fun b hb => R.out.lt b hb
            go_wp2_with fail
            refine (HIH.out hd A1 n1 c1 z1 _ (Nat.le_trans hlo HBW.out.size) T.out HTR.out).mono ?_
            rintro e w1 ⟨v1, r1, A2, n2, c2, z2, rfl, D1, G1, T1, b1⟩
            obtain ⟨rk, ri, rt, ⟨la, ln, lc⟩, ⟨fa, fn, fc⟩⟩ := r1
            simp only [Rv.agg, Sl.v]
            have bz := balloc (w := w1) (.cells #[.int .i64 rk, .int .i64 ri, .string rt, .slice la ln lc, .slice fa fn fc] 28)
            have bb := bthen b1 bz
            obtain ⟨A3, c3, w3, hr, R3, m3⟩ := push_val (R'.below bb) (by have h1 := HBW.out.size; have h2 := bb.size; have h3 := lt_of_block Y.out; omega) ⟨rk, ri, rt, ⟨la, ln, lc⟩, ⟨fa, fn, fc⟩⟩ (by have := hrl.out; omega) (w1.heap.size + 1) (by simp)
            simp only [Rv.cs, Sl.v] at hr
            have hnV : ¬ own (.slice sa rs.length sc) (w.heap.size + 1) := fun h9 => by have := (hsl.out _ h9).1; omega
            have hnZ : ¬ own (.slice sa rs.length sc) w.heap.size := fun h9 => by have := (hsl.out _ h9).1; omega
            have Yb := below_block bb (lt_of_block Y.out) Y.out
            have Y3 := m3.at_ Yb hnV
            have Z3 := m3.at_ (below_block bb (lt_of_block Z.out) Z.out) hnZ
            have y3 : (w1.alloc (.cells #[.int .i64 rk, .int .i64 ri, .string rt, .slice la ln lc, .slice fa fn fc] 28)).cell? ⟨w.heap.size + 1, 3, none⟩ = some (.slice sa rs.length sc) := (cell_of_row _ _ 3 _ _ _ Yb).trans rfl
            have Yx := heap_alloc_new w1 (.cells #[.int .i64 rk, .int .i64 ri, .string rt, .slice la ln lc, .slice fa fn fc] 28)
            have x0 : (w1.alloc (.cells #[.int .i64 rk, .int .i64 ri, .string rt, .slice la ln lc, .slice fa fn fc] 28)).cell? ⟨w1.heap.size, 0, none⟩ = some (.int .i64 rk) := (cell_of_row _ _ 0 _ _ _ Yx).trans rfl
            have x1 : (w1.alloc (.cells #[.int .i64 rk, .int .i64 ri, .string rt, .slice la ln lc, .slice fa fn fc] 28)).cell? ⟨w1.heap.size, 1, none⟩ = some (.int .i64 ri) := (cell_of_row _ _ 1 _ _ _ Yx).trans rfl
            have x2 : (w1.alloc (.cells #[.int .i64 rk, .int .i64 ri, .string rt, .slice la ln lc, .slice fa fn fc] 28)).cell? ⟨w1.heap.size, 2, none⟩ = some (.string rt) := (cell_of_row _ _ 2 _ _ _ Yx).trans rfl
            have x3 : (w1.alloc (.cells #[.int .i64 rk, .int .i64 ri, .string rt, .slice la ln lc, .slice fa fn fc] 28)).cell? ⟨w1.heap.size, 3, none⟩ = some (.slice la ln lc) := (cell_of_row _ _ 3 _ _ _ Yx).trans rfl
            have x4 : (w1.alloc (.cells #[.int .i64 rk, .int .i64 ri, .string rt, .slice la ln lc, .slice fa fn fc] 28)).cell? ⟨w1.heap.size, 4, none⟩ = some (.slice fa fn fc) := (cell_of_row _ _ 4 _ _ _ Yx).trans rfl
            have g3 : w3.cell? ⟨w.heap.size + 1, 3, none⟩ = some (.slice sa rs.length sc) := (cell_of_row _ _ 3 _ _ _ Y3).trans rfl
            have gf : w3.frozen? ⟨w.heap.size + 1, 3, none⟩ = false := by simp [World.frozen?, Y3]
            have ks := kids_same (lo := w.heap.size + 2) (VB := w.heap.size + 1) (c := 3) (u := .slice A3 (rs.length + 1) c3) b1 bz m3
            have kn := kid_new (lo := w.heap.size + 2) (VB := w.heap.size + 1) (c := 3) (u := .slice A3 (rs.length + 1) c3) (wr := wr) (by have := lt_of_block Y.out; omega) (lt_of_block Y.out) (fun b hb => (hsl.out b hb).2) bz m3
            have K4 : Hid (All2 (Rd (KP (w.heap.size + 2) (w.heap.size + 1) (⟨A3, rs.length + 1, c3⟩ : Sl).v (w3.setCell ⟨w.heap.size + 1, 3, none⟩ (.slice A3 (rs.length + 1) c3))) dd (w3.setCell ⟨w.heap.size + 1, 3, none⟩ (.slice A3 (rs.length + 1) c3))) (ls ++ [v1]) (rs ++ [⟨rk, ri, rt, ⟨la, ln, lc⟩, ⟨fa, fn, fc⟩⟩])) := hid_mk ((K.out.imp fun x y h => Rd.stays ks.1 ks.2 dd x y h).snoc (Rd.stays kn.1 kn.2 dd _ _ D1))
            have G4 : Hid (∀ x ∈ ls ++ [v1], VGood dd x) := hid_mk fun x hx => by
              rcases List.mem_append.1 hx with h | h
              · exact G.out x h
              · simp at h; subst h; exact G1
            have Y4 : Hid ((w3.setCell ⟨w.heap.size + 1, 3, none⟩ (.slice A3 (rs.length + 1) c3)).heap[w.heap.size + 1]? = some (.cells #[.int .i64 4, .int .i64 0, .string ⟨#[]⟩, (⟨A3, rs.length + 1, c3⟩ : Sl).v, .slice none 0 0] 28 (0, 0))) := hid_mk (block_setCell Y3 3 (.slice A3 (rs.length + 1) c3) (by simp))
            have Z4 := hid_mk ((heap_setCell_other w3 ⟨w.heap.size + 1, 3, none⟩ w.heap.size (.slice A3 (rs.length + 1) c3) (by show w.heap.size ≠ w.heap.size + 1; omega)).trans Z3)
            have hn3 : (Value.slice A3 (rs.length + 1) c3).ownBlock ≠ some (w.heap.size + 1) := fun h9 => by
              rcases m3.new _ h9 with h8 | h8
              · exact hnV h8
              · have h7 := lt_of_block Yb; omega
            have R4 : Hid (Rw (w.heap.size + 2) (w3.setCell ⟨w.heap.size + 1, 3, none⟩ (.slice A3 (rs.length + 1) c3)) 28 5 (⟨A3, rs.length + 1, c3⟩ : Sl).v (rs ++ [(⟨rk, ri, rt, ⟨la, ln, lc⟩, ⟨fa, fn, fc⟩⟩ : Rv)]).length (vcells (rs ++ [(⟨rk, ri, rt, ⟨la, ln, lc⟩, ⟨fa, fn, fc⟩⟩ : Rv)]))) := hid_mk (by
              rw [vcells_append, List.length_append]
              exact R3.setCell_other _ _ hn3)
            have B4 := hid_mk ((((HBW.out.trans (b1.mono HBW.out.size)).trans (bz.mono (HBW.out.trans (b1.mono HBW.out.size)).size)).trans (m3.below (fun b hb => by have := (hsl.out b hb).1; omega) (by have h1 := HBW.out.size; have h2 := bb.size; omega))).setCell (p := ⟨w.heap.size + 1, 3, none⟩) (by simp) (.slice A3 (rs.length + 1) c3))
            have T4 := hid_mk (T1.below (((bz.mono (by have := bb.size; have := HBW.out.size; have := b1.size; omega)).trans (m3.below (B := lo) (fun b hb => by have := (hsl.out b hb).1; omega) (by have h1 := HBW.out.size; have h2 := bb.size; omega))).setCell (p := ⟨w.heap.size + 1, 3, none⟩) (by simp; omega) (.slice A3 (rs.length + 1) c3)))
            clear ks kn R3 m3 Y3 Z3 Yb Yx bb bz D1 G1 T1 b1 T Y Z R K G HBW HTR hnV hnZ hn3
            go_wp2_with (at_builtin; refine Lib.wpList_append_run _ rfl _ _ 25 25 rfl _ _ rfl rfl _ _ hr ?_)
            refine ⟨⟨k + 1, A2, n2, c2, z2, ⟨A3, rs.length + 1, c3⟩, ls ++ [v1], rs ++ [⟨rk, ri, rt, ⟨la, ln, lc⟩, ⟨fa, fn, fc⟩⟩], ?_, by omega, rfl, by rw [List.length_append, HLL.out]; rfl, T4, Z4, Y4, R4, K4, G4, B4⟩, ?_⟩
            · go_num
            · simp [intOf]
              omega
          · obtain rfl : k = m := by omega
            have k0 := (cell_of_row wr _ 0 _ _ _ Z.out).trans rfl
            have k1 := (cell_of_row wr _ 1 _ _ _ Z.out).trans rfl
            have k2 := (cell_of_row wr _ 2 _ _ _ Z.out).trans rfl
            have k3 := (cell_of_row wr _ 3 _ _ _ Z.out).trans rfl
            have k4 := (cell_of_row wr _ 4 _ _ _ Z.out).trans rfl
            have f0 : wr.frozen? ⟨w.heap.size, 0, none⟩ = false := by simp [World.frozen?, Z.out]
            have f1 : wr.frozen? ⟨w.heap.size, 1, none⟩ = false := by simp [World.frozen?, Z.out]
            have f2 : wr.frozen? ⟨w.heap.size, 2, none⟩ = false := by simp [World.frozen?, Z.out]
            have f3 : wr.frozen? ⟨w.heap.size, 3, none⟩ = false := by simp [World.frozen?, Z.out]
            have f4 : wr.frozen? ⟨w.heap.size, 4, none⟩ = false := by simp [World.frozen?, Z.out]
            have y0 : wr.cell? ⟨w.heap.size + 1, 0, none⟩ = some (.int .i64 4) := (cell_of_row wr _ 0 _ _ _ Y.out).trans rfl
            have y1 : wr.cell? ⟨w.heap.size + 1, 1, none⟩ = some (.int .i64 0) := (cell_of_row wr _ 1 _ _ _ Y.out).trans rfl
            have y2 : wr.cell? ⟨w.heap.size + 1, 2, none⟩ = some (.string ⟨#[]⟩) := (cell_of_row wr _ 2 _ _ _ Y.out).trans rfl
            have y3 : wr.cell? ⟨w.heap.size + 1, 3, none⟩ = some (.slice sa sn sc) := (cell_of_row wr _ 3 _ _ _ Y.out).trans rfl
            have y4 : wr.cell? ⟨w.heap.size + 1, 4, none⟩ = some (.slice none 0 0) := (cell_of_row wr _ 4 _ _ _ Y.out).trans rfl
            have HD := hid_mk (made_list (dd := dd) T.out R.out K.out G.out HBW.out (by rw [HLL.out]; omega) hlo)
            clear T Z Y R K G HBW
            go_wp2_with fail
            (try simp only [Exit.inBlock, Exit.then])
            refine bodyPost_ret (v := .tuple #[.agg #[.int .i64 4, .int .i64 0, .string ⟨#[]⟩, .slice sa sn sc, .slice none 0 0], .slice A1 n1 c1]) ?_ rfl ?_
            · simp [results, Tryd.results21, go_sem, *]
            · exact (HD.out _ _ _ _ _).no (fun h9 => by have h8 := h9.2.1; have h7 := h9.2.2; rw [← HCE.out] at h8; omega)
      · obtain rfl : dd = 0 := by omega
        clear hm0 hm6
        go_enter Tryd.func21, Tryd.ntmps21
        go_wp2_with fail
        (try simp only [Exit.inBlock, Exit.then])
        refine bodyPost_ret (v := .tuple #[.agg #[.int .i64 0, .int .i64 0, .string ⟨#[]⟩, .slice none 0 0, .slice none 0 0], .slice A' n (cap - 1)]) ?_ rfl ?_
        · simp [results, Tryd.results21, go_sem, *]
        · exact (made_plain 0 _ ⟨#[]⟩ (by omega) (by omega) (HT0.out.below ((balloc _).mono hlo)) (balloc _)).no (fun h9 => by have h8 := h9.2.1; have h7 := h9.2.2; rw [← HCE.out] at h8; omega)
    · by_cases hd : 1 ≤ dd
      · have hd1 : (1 : Int) < (dd : Int) + 1 := by omega
        clear hm0 hm6
        go_enter Tryd.func21, Tryd.ntmps21
        go_wp2_with fail
        obtain ⟨w0, hw0⟩ : ∃ w0, w0 = (w.alloc (.cells #[.int .i64 0, .int .i64 0, .string ⟨#[]⟩, .slice none 0 0, .slice none 0 0] 28)).alloc (.cells #[.int .i64 5, .int .i64 0, .string ⟨#[]⟩, .slice none 0 0, .slice none 0 0] 28) := ⟨_, rfl⟩
        have hn0 : ((n : Int) + 1 == 0) = false := beq_eq_false_iff_ne.2 (by omega)
        simp only [hn0, hq, hk]
        rw [← hw0]
        have hs0 : w0.heap.size = w.heap.size + 2 := by rw [hw0]; simp
        have B0 : Below w.heap.size w w0 := by rw [hw0]; exact bthen (balloc _) (balloc _)
        have Z0 : Hid (w0.heap[w.heap.size]? = some (.cells #[.int .i64 0, .int .i64 0, .string ⟨#[]⟩, .slice none 0 0, .slice none 0 0] 28 (0, 0))) := hid_mk (by rw [hw0, heap_alloc_old _ _ (by simp)]; exact X0)
        have Y0 : Hid (w0.heap[w.heap.size + 1]? = some (.cells #[.int .i64 5, .int .i64 0, .string ⟨#[]⟩, .slice none 0 0, (⟨none, 0, 0⟩ : Sl).v] 28 (0, 0))) := hid_mk (by
          rw [hw0]
          have h9 := heap_alloc_new (w.alloc (.cells #[.int .i64 0, .int .i64 0, .string ⟨#[]⟩, .slice none 0 0, .slice none 0 0] 28)) (.cells #[.int .i64 5, .int .i64 0, .string ⟨#[]⟩, .slice none 0 0, .slice none 0 0] 28)
          rw [World.size_alloc] at h9; exact h9)
        have T0 : Hid (Bytes lo w0 A' n (cap - 1) (zs.drop 1)) := hid_mk (HT0.out.below (B0.mono hlo))
        have R0 : Hid (Rw (w.heap.size + 2) w0 31 6 (⟨none, 0, 0⟩ : Sl).v ([] : List Fv).length (fcells [])) := hid_mk (Rw.nil _ _ _ _)
        have K0 : Hid (All2 (fun (x : ByteArray × V) (y : Fv) => x.1 = y.1 ∧ Rd (KP (w.heap.size + 2) (w.heap.size + 1) (⟨none, 0, 0⟩ : Sl).v w0) dd w0 x.2 y.2) [] []) := hid_mk .nil
        have G0 : Hid (∀ x ∈ ([] : List (ByteArray × V)), VGood dd x.2 ∧ ∃ i, i < 0 ∧ x.1 = nameN i) := hid_mk fun x hx => absurd hx (by simp)
        have HTW := hid_mk ht
        have HB0 := hid_mk B0
        clear hw0 hs0 B0 HT0 X0 bw c0' c0 hA' HB ht
        have U0 : Hid (namesUp []) := hid_mk List.Pairwise.nil
        go_loopw [0, 95] (fun bs iv wr => ∃ (k : Nat) (A1 : Option Addr) (n1 c1 : Nat) (z1 : List Int) (sl : Sl) (ls : List (ByteArray × V)) (rs : List Fv), iv = .int .i64 k ∧ k ≤ 4 ∧ bs = .slice A1 n1 c1 ∧ ls.length ≤ k ∧ Hid (Bytes lo wr A1 n1 c1 z1) ∧
          Hid (wr.heap[w.heap.size]? = some (.cells #[.int .i64 0, .int .i64 0, .string ⟨#[]⟩, .slice none 0 0, .slice none 0 0] 28 (0, 0))) ∧
          Hid (wr.heap[w.heap.size + 1]? = some (.cells #[.int .i64 5, .int .i64 0, .string ⟨#[]⟩, .slice none 0 0, sl.v] 28 (0, 0))) ∧
          Hid (Rw (w.heap.size + 2) wr 31 6 sl.v rs.length (fcells rs)) ∧ Hid (All2 (fun (x : ByteArray × V) (y : Fv) => x.1 = y.1 ∧ Rd (KP (w.heap.size + 2) (w.heap.size + 1) sl.v wr) dd wr x.2 y.2) ls rs) ∧ Hid (∀ x ∈ ls, VGood dd x.2 ∧ ∃ i, i < k ∧ x.1 = nameN i) ∧ Hid (namesUp ls) ∧ Hid (Below w.heap.size w wr)) (fun _ iv _ => 4 - (intOf iv).toNat)
        case atStart => exact ⟨0, A', n, cap - 1, zs.drop 1, ⟨none, 0, 0⟩, [], [], rfl, Nat.zero_le _, rfl, Nat.le_refl _, T0, Z0, Y0, R0, K0, G0, U0, HB0⟩
        case round =>
          clear T0 Z0 Y0 R0 K0 G0 HB0 U0
          obtain ⟨k, A1, n1, c1, z1, sl, ls, rs, rfl, hk, rfl, hll, T, Z, Y, R, K, G, U, HBW⟩ := hrel
          obtain ⟨sa, sn, sc⟩ := sl
          have HLL := hid_mk hll
          have hrl : Hid (rs.length ≤ k) := hid_mk (by rw [← K.out.length]; exact hll)
          clear hll
          by_cases hlt : k < 4
          · have hkm : (k : Int) < 4 := by omega
            have HTR := hid_mk (HTW.out.below HBW.out)
            have hsn : sn = rs.length := by
              obtain ⟨Ax, cx, hx, _⟩ := R.out.shape
              injection hx
            subst hsn
            have R' : Rw (w.heap.size + 2) wr 31 6 (.slice sa rs.length sc) rs.length (fcells rs) := R.out
            have hsl : Hid (∀ b, own (.slice sa rs.length sc) b → w.heap.size + 2 ≤ b ∧ b < wr.heap.size) := hid_mk fun b hb => R.out.lt b hb
            go_wp2_with fail
            case roundEnd =>
              refine ⟨⟨k + 1, A1, n1, c1, z1, ⟨sa, rs.length, sc⟩, ls, rs, ?_, by omega, rfl, by have := HLL.out; omega, T, Z, Y, R, K, hid_mk fun x hx => ⟨(G.out x hx).1, ?_⟩, U, HBW⟩, ?_⟩
              · go_num
              · obtain ⟨i, hi, he⟩ := (G.out x hx).2
                exact ⟨i, by omega, he⟩
              · simp [intOf]
                omega
            refine (HIH.out hd A1 n1 c1 z1 _ (Nat.le_trans hlo HBW.out.size) T.out HTR.out).mono ?_
            rintro e w1 ⟨v1, r1, A2, n2, c2, z2, rfl, D1, G1, T1, b1⟩
            obtain ⟨rk, ri, rt, ⟨la, ln, lc⟩, ⟨fa, fn, fc⟩⟩ := r1
            simp only [Rv.agg, Sl.v]
            have bz := balloc (w := w1) (.cells #[.int .i64 rk, .int .i64 ri, .string rt, .slice la ln lc, .slice fa fn fc] 28)
            have bb := bthen b1 bz
            have tn := (HTR.out.below bb).2 k hlt
            obtain ⟨nm, hnm⟩ : ∃ nm, nm = nameN k := ⟨_, rfl⟩
            rw [← hnm] at tn
            obtain ⟨A3, c3, w3, hr, R3, m3⟩ := push_fld (R'.below bb) (by have h1 := HBW.out.size; have h2 := bb.size; have h3 := lt_of_block Y.out; omega) (nm, ⟨rk, ri, rt, ⟨la, ln, lc⟩, ⟨fa, fn, fc⟩⟩) (by have := hrl.out; omega) (w1.heap.size + 1) (by simp)
            simp only [Fv.cs, Sl.v] at hr
            have hnV : ¬ own (.slice sa rs.length sc) (w.heap.size + 1) := fun h9 => by have := (hsl.out _ h9).1; omega
            have hnZ : ¬ own (.slice sa rs.length sc) w.heap.size := fun h9 => by have := (hsl.out _ h9).1; omega
            have Yb := below_block bb (lt_of_block Y.out) Y.out
            have Y3 := m3.at_ Yb hnV
            have Z3 := m3.at_ (below_block bb (lt_of_block Z.out) Z.out) hnZ
            have y3 : (w1.alloc (.cells #[.int .i64 rk, .int .i64 ri, .string rt, .slice la ln lc, .slice fa fn fc] 28)).cell? ⟨w.heap.size + 1, 4, none⟩ = some (.slice sa rs.length sc) := (cell_of_row _ _ 4 _ _ _ Yb).trans rfl
            have y3' : ((w1.alloc (.cells #[.int .i64 rk, .int .i64 ri, .string rt, .slice la ln lc, .slice fa fn fc] 28)).alloc (.cells #[.string nm, .int .i64 rk, .int .i64 ri, .string rt, .slice la ln lc, .slice fa fn fc] 31)).drew.cell? ⟨w.heap.size + 1, 4, none⟩ = some (.slice sa rs.length sc) := (cell_of_row _ _ 4 _ _ _ (below_block (balloc _) (lt_of_block Yb) Yb)).trans rfl
            have Yx := heap_alloc_new w1 (.cells #[.int .i64 rk, .int .i64 ri, .string rt, .slice la ln lc, .slice fa fn fc] 28)
            have x0 : (w1.alloc (.cells #[.int .i64 rk, .int .i64 ri, .string rt, .slice la ln lc, .slice fa fn fc] 28)).cell? ⟨w1.heap.size, 0, none⟩ = some (.int .i64 rk) := (cell_of_row _ _ 0 _ _ _ Yx).trans rfl
            have x1 : (w1.alloc (.cells #[.int .i64 rk, .int .i64 ri, .string rt, .slice la ln lc, .slice fa fn fc] 28)).cell? ⟨w1.heap.size, 1, none⟩ = some (.int .i64 ri) := (cell_of_row _ _ 1 _ _ _ Yx).trans rfl
            have x2 : (w1.alloc (.cells #[.int .i64 rk, .int .i64 ri, .string rt, .slice la ln lc, .slice fa fn fc] 28)).cell? ⟨w1.heap.size, 2, none⟩ = some (.string rt) := (cell_of_row _ _ 2 _ _ _ Yx).trans rfl
            have x3 : (w1.alloc (.cells #[.int .i64 rk, .int .i64 ri, .string rt, .slice la ln lc, .slice fa fn fc] 28)).cell? ⟨w1.heap.size, 3, none⟩ = some (.slice la ln lc) := (cell_of_row _ _ 3 _ _ _ Yx).trans rfl
            have x4 : (w1.alloc (.cells #[.int .i64 rk, .int .i64 ri, .string rt, .slice la ln lc, .slice fa fn fc] 28)).cell? ⟨w1.heap.size, 4, none⟩ = some (.slice fa fn fc) := (cell_of_row _ _ 4 _ _ _ Yx).trans rfl
            have g3 : w3.cell? ⟨w.heap.size + 1, 4, none⟩ = some (.slice sa rs.length sc) := (cell_of_row _ _ 4 _ _ _ Y3).trans rfl
            have gf : w3.frozen? ⟨w.heap.size + 1, 4, none⟩ = false := by simp [World.frozen?, Y3]
            have ks := kids_same (lo := w.heap.size + 2) (VB := w.heap.size + 1) (c := 4) (u := .slice A3 (rs.length + 1) c3) b1 bz m3
            have kn := kid_new (lo := w.heap.size + 2) (VB := w.heap.size + 1) (c := 4) (u := .slice A3 (rs.length + 1) c3) (wr := wr) (by have := lt_of_block Y.out; omega) (lt_of_block Y.out) (fun b hb => (hsl.out b hb).2) bz m3
            have K4 : Hid (All2 (fun (x : ByteArray × V) (y : Fv) => x.1 = y.1 ∧ Rd (KP (w.heap.size + 2) (w.heap.size + 1) (⟨A3, rs.length + 1, c3⟩ : Sl).v (w3.setCell ⟨w.heap.size + 1, 4, none⟩ (.slice A3 (rs.length + 1) c3))) dd (w3.setCell ⟨w.heap.size + 1, 4, none⟩ (.slice A3 (rs.length + 1) c3)) x.2 y.2) (ls ++ [(nm, v1)]) (rs ++ [(nm, ⟨rk, ri, rt, ⟨la, ln, lc⟩, ⟨fa, fn, fc⟩⟩)])) := hid_mk ((K.out.imp fun x y h => ⟨h.1, Rd.stays ks.1 ks.2 dd x.2 y.2 h.2⟩).snoc ⟨rfl, Rd.stays kn.1 kn.2 dd _ _ D1⟩)
            have G4 : Hid (∀ x ∈ ls ++ [(nm, v1)], VGood dd x.2 ∧ ∃ i, i < k + 1 ∧ x.1 = nameN i) := hid_mk fun x hx => by
              rcases List.mem_append.1 hx with h | h
              · obtain ⟨h1, i, hi, he⟩ := G.out x h
                exact ⟨h1, i, by omega, he⟩
              · simp at h; subst h; exact ⟨G1, k, by omega, hnm⟩
            have U4 : Hid (namesUp (ls ++ [(nm, v1)])) := hid_mk (names_snoc U.out (fun x hx => (G.out x hx).2) hlt hnm)
            have Y4 : Hid ((w3.setCell ⟨w.heap.size + 1, 4, none⟩ (.slice A3 (rs.length + 1) c3)).heap[w.heap.size + 1]? = some (.cells #[.int .i64 5, .int .i64 0, .string ⟨#[]⟩, .slice none 0 0, (⟨A3, rs.length + 1, c3⟩ : Sl).v] 28 (0, 0))) := hid_mk (block_setCell Y3 4 (.slice A3 (rs.length + 1) c3) (by simp))
            have Z4 := hid_mk ((heap_setCell_other w3 ⟨w.heap.size + 1, 4, none⟩ w.heap.size (.slice A3 (rs.length + 1) c3) (by show w.heap.size ≠ w.heap.size + 1; omega)).trans Z3)
            have hn3 : (Value.slice A3 (rs.length + 1) c3).ownBlock ≠ some (w.heap.size + 1) := fun h9 => by
              rcases m3.new _ h9 with h8 | h8
              · exact hnV h8
              · have h7 := lt_of_block Yb; omega
            have R4 : Hid (Rw (w.heap.size + 2) (w3.setCell ⟨w.heap.size + 1, 4, none⟩ (.slice A3 (rs.length + 1) c3)) 31 6 (⟨A3, rs.length + 1, c3⟩ : Sl).v (rs ++ [((nm, ⟨rk, ri, rt, ⟨la, ln, lc⟩, ⟨fa, fn, fc⟩⟩) : Fv)]).length (fcells (rs ++ [((nm, ⟨rk, ri, rt, ⟨la, ln, lc⟩, ⟨fa, fn, fc⟩⟩) : Fv)]))) := hid_mk (by
              rw [fcells_append, List.length_append]
              exact R3.setCell_other _ _ hn3)
            have B4 := hid_mk ((((HBW.out.trans (b1.mono HBW.out.size)).trans (bz.mono (HBW.out.trans (b1.mono HBW.out.size)).size)).trans (m3.below (fun b hb => by have := (hsl.out b hb).1; omega) (by have h1 := HBW.out.size; have h2 := bb.size; omega))).setCell (p := ⟨w.heap.size + 1, 4, none⟩) (by simp) (.slice A3 (rs.length + 1) c3))
            have T4 := hid_mk (T1.below (((bz.mono (by have := bb.size; have := HBW.out.size; have := b1.size; omega)).trans (m3.below (B := lo) (fun b hb => by have := (hsl.out b hb).1; omega) (by have h1 := HBW.out.size; have h2 := bb.size; omega))).setCell (p := ⟨w.heap.size + 1, 4, none⟩) (by simp; omega) (.slice A3 (rs.length + 1) c3)))
            have hk0 : (0 : Int) ≤ (k : Int) := by omega
            clear ks kn R3 m3 Y3 Z3 Yb Yx bb bz D1 G1 T1 b1 T Y Z R K G U HBW HTR hnV hnZ hn3 hnm
            go_wp2_with fail
            go_region_law (refine step_append_runR rfl (.tmp 111) (.tmp 117) 26 26 rfl _ _ (by simp [Act.eval, Act.put]) (by simp [Act.eval, Act.put]) hr ?_)
            all_goals
              go_wp2_with fail
              refine ⟨⟨k + 1, A2, n2, c2, z2, ⟨A3, rs.length + 1, c3⟩, ls ++ [(nm, v1)], rs ++ [(nm, ⟨rk, ri, rt, ⟨la, ln, lc⟩, ⟨fa, fn, fc⟩⟩)], ?_, by omega, rfl, by have := HLL.out; rw [List.length_append]; simp; omega, T4, Z4, Y4, R4, K4, G4, U4, B4⟩, ?_⟩
              · go_num
              · simp [intOf]
                omega
          · obtain rfl : k = 4 := by omega
            have k0 := (cell_of_row wr _ 0 _ _ _ Z.out).trans rfl
            have k1 := (cell_of_row wr _ 1 _ _ _ Z.out).trans rfl
            have k2 := (cell_of_row wr _ 2 _ _ _ Z.out).trans rfl
            have k3 := (cell_of_row wr _ 3 _ _ _ Z.out).trans rfl
            have k4 := (cell_of_row wr _ 4 _ _ _ Z.out).trans rfl
            have f0 : wr.frozen? ⟨w.heap.size, 0, none⟩ = false := by simp [World.frozen?, Z.out]
            have f1 : wr.frozen? ⟨w.heap.size, 1, none⟩ = false := by simp [World.frozen?, Z.out]
            have f2 : wr.frozen? ⟨w.heap.size, 2, none⟩ = false := by simp [World.frozen?, Z.out]
            have f3 : wr.frozen? ⟨w.heap.size, 3, none⟩ = false := by simp [World.frozen?, Z.out]
            have f4 : wr.frozen? ⟨w.heap.size, 4, none⟩ = false := by simp [World.frozen?, Z.out]
            have y0 : wr.cell? ⟨w.heap.size + 1, 0, none⟩ = some (.int .i64 5) := (cell_of_row wr _ 0 _ _ _ Y.out).trans rfl
            have y1 : wr.cell? ⟨w.heap.size + 1, 1, none⟩ = some (.int .i64 0) := (cell_of_row wr _ 1 _ _ _ Y.out).trans rfl
            have y2 : wr.cell? ⟨w.heap.size + 1, 2, none⟩ = some (.string ⟨#[]⟩) := (cell_of_row wr _ 2 _ _ _ Y.out).trans rfl
            have y3 : wr.cell? ⟨w.heap.size + 1, 3, none⟩ = some (.slice none 0 0) := (cell_of_row wr _ 3 _ _ _ Y.out).trans rfl
            have y4 : wr.cell? ⟨w.heap.size + 1, 4, none⟩ = some (.slice sa sn sc) := (cell_of_row wr _ 4 _ _ _ Y.out).trans rfl
            have HD := hid_mk (made_flds (ob := 0 < n + 1 ∧ zs.getD 0 0 % 6 = 5 ∧ 1 ≤ dd) (dd := dd) T.out R.out K.out (fun x hx => (G.out x hx).1) U.out HBW.out HLL.out hlo)
            clear T Z Y R K G U HBW
            go_wp2_with fail
            (try simp only [Exit.inBlock, Exit.then])
            refine bodyPost_ret (v := .tuple #[.agg #[.int .i64 5, .int .i64 0, .string ⟨#[]⟩, .slice none 0 0, .slice sa sn sc], .slice A1 n1 c1]) ?_ rfl ?_
            · simp [results, Tryd.results21, go_sem, *]
            · exact HD.out _ _ _ _ _
      · obtain rfl : dd = 0 := by omega
        clear hm0 hm6
        go_enter Tryd.func21, Tryd.ntmps21
        go_wp2_with fail
        (try simp only [Exit.inBlock, Exit.then])
        refine bodyPost_ret (v := .tuple #[.agg #[.int .i64 0, .int .i64 0, .string ⟨#[]⟩, .slice none 0 0, .slice none 0 0], .slice A' n (cap - 1)]) ?_ rfl ?_
        · simp [results, Tryd.results21, go_sem, *]
        · exact (made_plain 0 _ ⟨#[]⟩ (by omega) (by omega) (HT0.out.below ((balloc _).mono hlo)) (balloc _)).no (fun h9 => by have h8 := h9.2.1; have h7 := h9.2.2; rw [← HCE.out] at h8; omega)
    · clear hm0 hm6
      go_enter Tryd.func21, Tryd.ntmps21
      go_wp2_with fail
      (try simp only [Exit.inBlock, Exit.then])
      refine bodyPost_ret (v := .tuple #[.agg #[.int .i64 0, .int .i64 0, .string ⟨#[]⟩, .slice none 0 0, .slice none 0 0], .slice A' n (cap - 1)]) ?_ rfl ?_
      · simp [results, Tryd.results21, go_sem, *]
      · exact (made_plain 0 _ ⟨#[]⟩ (by omega) (by omega) (HT0.out.below ((balloc _).mono hlo)) (balloc _)).no (fun h9 => by have h8 := h9.2.1; have h7 := h9.2.2; rw [← HCE.out] at h8; omega)

end Go.Proofs.YtmeebjjdceokeaaDoor
