/- The document's examples of a walk. -/
import Derived.Test.YtanomhjekdefeaaWalkH
namespace Go.Proofs.Ytanomhjekdefeaa
open Go.RowKit
set_option linter.unusedVariables false
attribute [local go_sem ↓] Go.wp_at_zero Go.wp_at_succ

def eA : E := ⟨⟨#[97]⟩, 0⟩
def eB : E := ⟨⟨#[98]⟩, 0⟩
def eC : E := ⟨⟨#[99]⟩, 0⟩
def rB : Rg := ⟨⟨#[98]⟩, ⟨#[]⟩, true⟩
def abc : List E := add eC (add eB (add eA []))
theorem abc_1 : nextE abc rB zM = (eC, true) := by decide
theorem abc_2 : nextE abc rB ⟨eC, true⟩ = (eB, true) := by decide
theorem abc_3 : nextE abc rB ⟨eB, true⟩ = (zE, false) := by decide

/-- A walk beside its tree. -/
structure Wt (B : Nat) (w : World) (tp : Nat) (L : List E) (F : Nat → Prop) (p : Nat) (r : Rg) (m : Mk) : Prop where
  tree : Tree B w tp L F
  wk : Wk w p tp r m
  base : B ≤ p
  apart : ¬ F p
theorem Wt.below {B : Nat} {w w' : World} {tp : Nat} {L : List E} {F : Nat → Prop} {p : Nat} {r : Rg} {m : Mk} (H : Wt B w tp L F p r m) (hb : Below w.heap.size w w') : Wt B w' tp L F p r m :=
  ⟨H.tree.below hb, H.wk.below hb, H.base, H.apart⟩
theorem Wt.fresh {B : Nat} {w w' : World} {tp : Nat} {L : List E} {F : Nat → Prop} {p : Nat} {r : Rg} {m : Mk} (H : Tree B w tp L F) (b : Below w.heap.size w w') (h : Wk w' p tp r m) (hp : w.heap.size ≤ p) : Wt B w' tp L F p r m :=
  ⟨H.below b, h, Nat.le_trans H.size.1 hp, fun hf => by have := (H.foot p hf).2; omega⟩
/-- A walk's next, beside its tree: what it gives, and what it leaves as it was. -/
theorem wnext_any (B tp p : Nat) (L : List E) (F : Nat → Prop) (r : Rg) (m : Mk) (w : World) (H : Wt B w tp L F p r m) :
    Calls Try.prog 17 #[.pointer (some ⟨p, 0, none⟩)] w fun e w' => e = .returned (.tuple #[.agg #[.string (nextE L r m).1.key, .int .i64 (nextE L r m).1.id], .bool (nextE L r m).2]) ∧
      Wt B w' tp L F p r (mkOf m (nextE L r m)) ∧ Mv (fun k => k = p) (fun k => k = p) w w' := by
  refine (next_any B p tp L F r m w H.wk H.tree).mono ?_
  rintro e w' ⟨rfl, h1, h2⟩
  exact ⟨rfl, ⟨H.tree.other h2 (fun k hk e => H.apart (e ▸ hk)), h1, H.base, H.apart⟩, h2⟩
theorem Wt.moved {B : Nat} {w w' : World} {tp : Nat} {L : List E} {F : Nat → Prop} {p : Nat} {r : Rg} {m : Mk} (H : Wt B w tp L F p r m) (h : Mv (fun k => k = p) (fun k => k = p) w w') : Below B w w' :=
  h.below (fun k hk => by have := H.base; omega) H.tree.size.1

set_option maxHeartbeats 4000000 in
set_option maxRecDepth 100000 in
theorem wawake_any (w : World) : Calls Try.prog 9 #[] w fun r w' => r = .returned (.bool true) ∧ Below w.heap.size w w' := by
  go_enter Try.func9, Try.ntmps9
  go_wp2_with fail
  refine (new_any _).mono ?_
  rintro r w1 ⟨p, F1, rfl, T1, b1⟩
  have HT1 := hid_mk T1
  clear T1
  go_wp2_with fail
  refine (tadd_any w.heap.size p [] F1 eA _ HT1.out (by simp)).mono ?_
  rintro r w2 ⟨rfl, F2, T2, m2⟩
  have b2 := b1.trans ((HT1.out.moved m2).mono (Nat.le_refl _))
  have HT2 := hid_mk T2
  clear T2 m2 HT1 b1
  go_wp2_with fail
  refine (tadd_any w.heap.size p (add eA []) F2 eB _ HT2.out (by decide)).mono ?_
  rintro r w3 ⟨rfl, F3, T3, m3⟩
  have b3 := b2.trans ((HT2.out.moved m3).mono (Nat.le_refl _))
  have HT3 := hid_mk T3
  clear T3 m3 HT2 b2
  go_wp2_with fail
  refine (tadd_any w.heap.size p (add eB (add eA [])) F3 eC _ HT3.out (by decide)).mono ?_
  rintro r w4 ⟨rfl, F4, T4, m4⟩
  have b4 := b3.trans ((HT3.out.moved m4).mono (Nat.le_refl _))
  have HT4 : Hid (Tree w.heap.size w4 p abc F4) := hid_mk T4
  clear T4 m4 HT3 b3
  go_wp2_with fail
  refine (wnew_any p rB _).mono ?_
  rintro r w5 ⟨q, rfl, W5, hq, b5⟩
  have HW5 := hid_mk (Wt.fresh HT4.out b5 W5 hq)
  have B5 := bthen b4 b5
  clear W5 hq b4 b5 HT4
  go_wp2_with fail
  refine (wnext_any w.heap.size p q abc F4 rB zM _ HW5.out).mono ?_
  rintro r w6 ⟨rfl, W6, m6⟩
  rw [abc_1] at W6 ⊢
  have b6 := B5.trans (HW5.out.moved m6)
  have W7 := hid_mk (W6.below (balloc (w := w6) (.cells #[.string eC.key, .int .i64 eC.id] 34)))
  have Y7 := hid_mk (heap_alloc_new w6 (.cells #[.string eC.key, .int .i64 eC.id] 34))
  have b7 := b6.trans ((balloc (w := w6) (.cells #[.string eC.key, .int .i64 eC.id] 34)).mono b6.size)
  have hq7 : q ≠ w6.heap.size := fun h => by have := W6.wk.lt; omega
  have HQ7 := hid_mk hq7
  clear HW5 m6 W6 b6 B5 hq7
  go_wp2_with fail
  refine (wnext_any w.heap.size p q abc F4 rB ⟨eC, true⟩ _ W7.out).mono ?_
  rintro r w8 ⟨rfl, W8, m8⟩
  rw [abc_2] at W8 ⊢
  have b8 := b7.trans (W7.out.moved m8)
  have Y8 := m8.at_ Y7.out (fun h => HQ7.out h.symm)
  have bz8 := balloc (w := w8) (.cells #[.string eB.key, .int .i64 eB.id] 34)
  have W9 := hid_mk (W8.below bz8)
  have Y9 := hid_mk (below_block bz8 (lt_of_block Y8) Y8)
  have Z9 := hid_mk (heap_alloc_new w8 (.cells #[.string eB.key, .int .i64 eB.id] 34))
  have b9 := b8.trans (bz8.mono b8.size)
  have HQ9 : Hid (q ≠ w8.heap.size) := hid_mk fun h => by have := W8.wk.lt; omega
  clear m8 W8 b8 b7 W7 Y7 Y8 bz8
  go_wp2_with fail
  refine (wnext_any w.heap.size p q abc F4 rB ⟨eB, true⟩ _ W9.out).mono ?_
  rintro r wa ⟨rfl, Wa, ma⟩
  rw [abc_3] at Wa ⊢
  have ba := b9.trans (W9.out.moved ma)
  have Ya := ma.at_ Y9.out (fun h => HQ7.out h.symm)
  have Za := ma.at_ Z9.out (fun h => HQ9.out h.symm)
  have bza := balloc (w := wa) (.cells #[.string zE.key, .int .i64 zE.id] 34)
  have Wb := hid_mk (Wa.below bza)
  have Yb := hid_mk (below_block bza (lt_of_block Ya) Ya)
  have Zb := hid_mk (below_block bza (lt_of_block Za) Za)
  have bb := ba.trans (bza.mono ba.size)
  obtain ⟨wb, hwb⟩ : ∃ wb, wb = wa.alloc (.cells #[.string zE.key, .int .i64 zE.id] 34) := ⟨_, rfl⟩
  rw [← hwb] at Wb Yb Zb bb
  have HWB := hid_mk hwb
  clear ma Wa ba b9 W9 Y9 Z9 Ya Za bza hwb
  go_wp2_with fail
  rw [← HWB.out]
  have e0 : ∀ z : BW wb, z.w.cell? ⟨w6.heap.size, 0, none⟩ = some (.string ⟨#[99]⟩) := fun z => z.cell ((cell_of_row wb _ 0 _ _ _ Yb.out).trans rfl)
  have e1 : ∀ z : BW wb, z.w.cell? ⟨w6.heap.size, 1, none⟩ = some (.int .i64 0) := fun z => z.cell ((cell_of_row wb _ 1 _ _ _ Yb.out).trans rfl)
  have e2 : ∀ z : BW wb, z.w.cell? ⟨w8.heap.size, 0, none⟩ = some (.string ⟨#[98]⟩) := fun z => z.cell ((cell_of_row wb _ 0 _ _ _ Zb.out).trans rfl)
  have e3 : ∀ z : BW wb, z.w.cell? ⟨w8.heap.size, 1, none⟩ = some (.int .i64 0) := fun z => z.cell ((cell_of_row wb _ 1 _ _ _ Zb.out).trans rfl)
  have HMARK : Hid (∀ z : BW wb, Calls Try.prog 19 #[.pointer (some ⟨q, 0, none⟩)] z.w fun e w'' => e = .returned (.agg #[.string ⟨#[98]⟩, .int .i64 0, .bool true]) ∧ ∃ y : BW wb, w'' = y.w) := hid_mk fun z => (mark_any q p rB ⟨eB, true⟩ z.w (Wb.out.wk.below z.h)).mono (by rintro e w' ⟨rfl, b⟩; exact ⟨rfl, z.step b⟩)
  refine wp_region_bw wb (by kernel_rfl) (by kernel_rfl) (Below.refl _ _) ?_
  repeat (go_big_quiet_step ((first | exact HMARK.out _)))
  refine wpQuiet_nil ?_
  rintro _ ⟨z, rfl⟩
  have hbz := bb.trans (z.h.mono bb.size)
  clear HMARK e0 e1 e2 e3
  go_wp2_with fail
  go_ret
  exact ⟨rfl, hbz⟩

end Go.Proofs.Ytanomhjekdefeaa
