/- Readings stay by their blocks' types; a counter in a block of its own. -/
import Derived.Test.YtmeebjjdceokeaaDoorCmpOrd
namespace Go.Proofs.YtmeebjjdceokeaaDoor
open Go.RowKit
set_option linter.unusedVariables false

theorem RdW.keptT : ∀ (d : Nat) {w w' : World} (hz : w.heap.size ≤ w'.heap.size) (hb : ∀ b, (HasT w b 28 ∨ HasT w b 31) → w'.heap[b]? = w.heap[b]?) (v : V) (r : Rv), RdW d w v r → RdW d w' v r
  | 0, _, _, _, _, _, _, h => h.elim
  | d + 1, w, w', hz, hb, v, r, ⟨h1, h2, h3, ⟨rs, a1, a2, a3⟩, ⟨qs, b1, b2, b3⟩⟩ =>
    ⟨h1, h2, h3, ⟨rs, a1.imp fun x y h => RdW.keptT d hz hb x y h, a2.stays fun k hk => hb k (.inl (a2.hasT k hk).2.2), fun b hb' => Nat.lt_of_lt_of_le (a3 b hb') hz⟩,
      ⟨qs, b1.imp fun x y h => ⟨h.1, RdW.keptT d hz hb x.2 y.2 h.2⟩, b2.stays fun k hk => hb k (.inr (b2.hasT k hk).2.2), fun b hb' => Nat.lt_of_lt_of_le (b3 b hb') hz⟩⟩
/-- A number in a block of its own. -/
def Cnt (c : Nat) (n : Int) (w : World) : Prop := w.heap[c]? = some (.cells #[.int .i64 n] 3 (0, 0))
/-- From w to w' no old block changed but c. -/
def But (c : Nat) (w w' : World) : Prop := Mv (fun k => k = c) (fun k => k = c) w w'
theorem But.refl (c : Nat) (w : World) : But c w w := Mv.refl _ _
theorem But.trans {c : Nat} {a b e : World} (h : But c a b) (k : But c b e) : But c a e := Mv.trans h k
theorem But.of_below {c : Nat} {w w' : World} (h : Below w.heap.size w w') : But c w w' := Mv.of_below h
theorem But.below {c B : Nat} {w w' : World} (h : But c w w') (hB : B ≤ c) (hw : B ≤ w.heap.size) : Below B w w' := Mv.below h (fun k hk => by rw [hk]; exact hB) hw
theorem But.at_ {c : Nat} {w w' : World} (h : But c w w') {k : Nat} {o : Obj} (hb : w.heap[k]? = some o) (hk : k ≠ c) : w'.heap[k]? = some o := Mv.at_ h hb hk
theorem Cnt.at0 {c : Nat} {n : Int} {w : World} (h : Cnt c n w) : w.cell? ⟨c, 0, none⟩ = some (.int .i64 n) := (cell_of_row w c 0 _ _ _ h).trans rfl
theorem Cnt.below {c : Nat} {n : Int} {w w' : World} (h : Cnt c n w) (b : Below w.heap.size w w') : Cnt c n w' := below_block b (lt_of_block h) h
theorem RdW.but {d c : Nat} {n : Int} {w w' : World} {v : V} {r : Rv} (h : RdW d w v r) (Z : Cnt c n w) (b : But c w w') : RdW d w' v r :=
  RdW.keptT d b.size (fun k hk => by
    rcases hk with ⟨_, _, hk⟩ | ⟨_, _, hk⟩
    · exact (b.at_ hk (fun e => by subst e; rw [Z] at hk; injection hk with hk; injection hk with _ hk; exact absurd hk (by decide))).trans hk.symm
    · exact (b.at_ hk (fun e => by subst e; rw [Z] at hk; injection hk with hk; injection hk with _ hk; exact absurd hk (by decide))).trans hk.symm) v r h
theorem rows_kept {c : Nat} {n : Int} {w w' : World} {T : TypeId} {size m : Nat} {v : Value} {xs : List Value} (R : Rw 0 w T size v m xs) (Z : Cnt c n w) (b : But c w w') (hT : T ≠ 3) : Rw 0 w' T size v m xs :=
  R.stays fun k hk => by
    obtain ⟨_, _, cs, fr, hb⟩ := R.hasT k hk
    refine (b.at_ hb fun e => ?_).trans hb.symm
    subst e; rw [Z] at hb; injection hb with hb; injection hb with _ hb; exact hT hb.symm
theorem RowV.but {d c : Nat} {n : Int} {w w' : World} {l : List V} {s : Sl} (h : RowV d w l s) (Z : Cnt c n w) (b : But c w w') : RowV d w' l s := by
  obtain ⟨rs, h1, h2⟩ := h
  exact ⟨rs, h1.imp fun x y h => h.but Z b, rows_kept h2 Z b (by decide)⟩
theorem RowF.but {d c : Nat} {n : Int} {w w' : World} {l : List (ByteArray × V)} {s : Sl} (h : RowF d w l s) (Z : Cnt c n w) (b : But c w w') : RowF d w' l s := by
  obtain ⟨rs, h1, h2⟩ := h
  exact ⟨rs, h1.imp fun x y h => ⟨h.1, h.2.but Z b⟩, rows_kept h2 Z b (by decide)⟩

end Go.Proofs.YtmeebjjdceokeaaDoor
