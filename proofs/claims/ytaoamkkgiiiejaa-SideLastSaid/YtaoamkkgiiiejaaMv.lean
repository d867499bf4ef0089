/- What a call may have changed, by block; rows of one type in several blocks. Of whatever seat. -/
import Derived.Test.YtaoamkkgiiiejaaCuts
import Derived.Maps.AppendAt
namespace Go.Proofs.Ytaoamkkgiiiejaa
open Go.RowKit
set_option linter.unusedVariables false

/-- From w to w' no old block changed but those of F; what F' holds lay in F, or is new. -/
structure Mv (F F' : Nat → Prop) (w w' : World) : Prop where
  os : w'.os = w.os
  tape : w'.tape = w.tape
  output : w'.output = w.output
  size : w.heap.size ≤ w'.heap.size
  block : ∀ k, k < w.heap.size → ¬ F k → w'.heap[k]? = w.heap[k]?
  new : ∀ k, F' k → F k ∨ w.heap.size ≤ k

theorem Mv.refl (F : Nat → Prop) (w : World) : Mv F F w w := ⟨rfl, rfl, rfl, Nat.le_refl _, fun _ _ _ => rfl, fun _ h => .inl h⟩
theorem Mv.of_below {F : Nat → Prop} {w w' : World} (h : Below w.heap.size w w') : Mv F F w w' := ⟨h.os, h.tape, h.output, h.size, fun k hk _ => h.block k hk, fun _ h => .inl h⟩
theorem Mv.trans {F F' F'' : Nat → Prop} {a b c : World} (h : Mv F F' a b) (k : Mv F' F'' b c) : Mv F F'' a c := by
  refine ⟨k.os.trans h.os, k.tape.trans h.tape, k.output.trans h.output, Nat.le_trans h.size k.size, fun i hi hc => ?_, fun i hi => ?_⟩
  · refine (k.block i (Nat.lt_of_lt_of_le hi h.size) fun h' => ?_).trans (h.block i hi hc)
    rcases h.new i h' with h2 | h2
    · exact hc h2
    · omega
  · rcases k.new i hi with h2 | h2
    · exact h.new i h2
    · exact .inr (Nat.le_trans h.size h2)
theorem Mv.wider {F F' G G' : Nat → Prop} {w w' : World} (h : Mv F F' w w') (h1 : ∀ k, F k → G k) (h2 : ∀ k, G' k → F' k ∨ G k) : Mv G G' w w' :=
  ⟨h.os, h.tape, h.output, h.size, fun k hk hc => h.block k hk fun hf => hc (h1 k hf), fun k hk => by
    rcases h2 k hk with h3 | h3
    · exact (h.new k h3).imp (h1 k) id
    · exact .inl h3⟩
theorem Mv.below {F F' : Nat → Prop} {B : Nat} {w w' : World} (h : Mv F F' w w') (hF : ∀ k, F k → B ≤ k) (hB : B ≤ w.heap.size) : Below B w w' :=
  ⟨h.os, h.tape, h.output, h.size, fun k hk => h.block k (Nat.lt_of_lt_of_le hk hB) fun hf => by have := hF k hf; omega⟩
theorem Mv.at_ {F F' : Nat → Prop} {w w' : World} (h : Mv F F' w w') {k : Nat} {o : Obj} (hb : w.heap[k]? = some o) (hk : ¬ F k) : w'.heap[k]? = some o :=
  (h.block k (lt_of_block hb) hk).trans hb
theorem Mv.drew {F F' : Nat → Prop} {w w' : World} (h : Mv F F' w w') : Mv F F' w w'.drew := ⟨h.os, h.tape, h.output, h.size, h.block, h.new⟩
theorem Mv.drewN {F F' : Nat → Prop} {w w' : World} (h : Mv F F' w w') {n : Nat} : Mv F F' w (w'.drewN n) := ⟨h.os, h.tape, h.output, h.size, h.block, h.new⟩
theorem Mv.alloc {F F' : Nat → Prop} {w w' : World} (h : Mv F F' w w') (o : Obj) : Mv F F' w (w'.alloc o) := h.trans (.of_below (balloc o))
theorem Mv.setCell {F : Nat → Prop} {w : World} {a : Addr} (u : Value) (ha : F a.block) : Mv F F w (w.setCell a u) :=
  ⟨rfl, rfl, rfl, by simp, fun k _ hc => heap_setCell_other w a k u fun e => hc (e ▸ ha), fun _ h => .inl h⟩
theorem Mv.cell {F F' : Nat → Prop} {w w' : World} (h : Mv F F' w w') {a : Addr} {v : Value} (hc : w.cell? a = some v) (hk : ¬ F a.block) : w'.cell? a = some v :=
  (World.cell?_of_block (h.block a.block (World.block_lt_of_cell? w a hc) hk)).trans hc

/-- The block of a slice. -/
def own (v : Value) (k : Nat) : Prop := v.ownBlock = some k
/-- A slice lies in none of F. -/
def Apart (v : Value) (F : Nat → Prop) : Prop := ∀ k, v.ownBlock = some k → ¬ F k
theorem Apart.moved {F F' : Nat → Prop} {w w' : World} {v : Value} (h : Apart v F) (hm : Mv F F' w w') (hv : ∀ k, v.ownBlock = some k → k < w.heap.size) : Apart v F' := fun k hk hf => by
  rcases hm.new k hf with h2 | h2
  · exact h k hk h2
  · have := hv k hk; omega
theorem own_lt {w : World} {B : Nat} {e : TypeId} {size n : Nat} {v : Value} {xs : List Value} (h : w.ownsRow B e size v n xs) (k : Nat) (hk : v.ownBlock = some k) : B ≤ k ∧ k < w.heap.size := by
  obtain ⟨h1, cs, fr, h2⟩ := ownsRow_hasT h k hk
  exact ⟨h1, lt_of_block h2⟩
/-- A row that lies in no block of F stays. -/
theorem Mv.row {F F' : Nat → Prop} {w w' : World} (h : Mv F F' w w') {B : Nat} {e : TypeId} {size n : Nat} {v : Value} {xs : List Value} (ho : w.ownsRow B e size v n xs) (ha : Apart v F) : w'.ownsRow B e size v n xs := by
  refine ⟨ho.1, ?_⟩
  rcases ho.2 with h2 | ⟨g, cap, cur, rfl, hg, hh, r⟩
  · exact .inl h2
  · exact .inr ⟨g, cap, cur, rfl, hg, h.at_ hh (ha g rfl), r⟩
theorem Mv.grown {w w' : World} {v v' : Value} (h : w.grownBy w' v.ownBlock) (hat : v'.ownBlock = v.ownBlock ∨ ∃ m, v'.ownBlock = some m ∧ w.heap.size ≤ m) : Mv (own v) (own v') w w' :=
  ⟨h.os, h.tape, h.output, h.size, fun k hk hc => h.block k hk fun e => hc e.symm, fun k hk => by
    rcases hat with h2 | ⟨m, h2, h3⟩
    · have hk' : v'.ownBlock = some k := hk
      exact .inl (h2.symm.trans hk')
    · have e : m = k := by have h4 : v'.ownBlock = some k := hk; rw [h2] at h4; simpa using h4
      exact .inr (e ▸ h3)⟩

section
variable {P : Program} {ops : Array Oper} {rest : List Oper} {o : Oper} {a : Act} {Q : Exit → Act → World → Prop}
/-- append(v, x), as app_own has it; and where the new slice lies. -/
theorem app_one (W : World) (hgd : o.guard = none) (s x : Operand) (t e : TypeId) (z : Value) (size bytes : Nat)
    (ho : o.op = .call { callee := .builtin .append, args := #[s, x], argTypes := #[t, t] }) (ht : P.underlying t = some (.slice e))
    (hinfo : (P.info? e).map (fun i => (i.zero, i.size, i.bytes)) = some (some z, size, bytes)) (hzs : z.cells.size = size) (hsz : 0 < size)
    (B : Nat) (v : Value) (n : Nat) (xs : List Value) (cs : Array Value) (hs : a.eval s = v) (N : Nat) (hx : a.eval x = .slice (some ⟨N, 0, none⟩) 1 1) (hN : N = W.heap.size) (hcs : cs.size = size) (h1 : ∀ u ∈ cs.toList, u.oneCell' = true)
    (hown : W.ownsRow B e size v n xs) (hB : B ≤ W.heap.size) (hl : (n + 1) * bytes ≤ 140737488355328) (hn : n + 1 ≤ 140737488355328)
    (h : ∀ v' w', w'.ownsRow B e size v' (n + 1) (xs ++ cs.toList) → Mv (own v) (own v') W w' → wpList P ops Q rest (a.put o.dst v') w') :
    wpList P ops Q (o :: rest) a (W.alloc (.cells cs e)) := by
  subst hN
  obtain ⟨i0, hi, hz0, hz1, hz2⟩ := info_parts hinfo
  refine wpList_append_own_at (W.alloc (.cells cs e)) hgd s x t ho B e i0 z size bytes ht hi hz0 hz1 hz2 hzs hsz v n xs hs (hown.alloc _) ⟨W.heap.size, 0, none⟩ 1 1 cs.toList hx (by simpa using hcs)
    (fun j u hu => ?_) h1 (by simp only [maxLen]; omega) hl (by simp; omega) ?_
  · rw [add0, cell_of_row (W.alloc (.cells cs e)) W.heap.size j cs e (0, 0) (heap_alloc_new W _)]
    simpa using hu
  · intro v' w' hown' hg _ hat
    refine h v' w' hown' ?_
    have h2 : Mv (own v) (own v) W (W.alloc (.cells cs e)) := .of_below (balloc _)
    exact h2.trans (Mv.grown hg (hat.imp id fun h => ⟨_, h, Nat.le_refl _⟩))

/-- append(v, y...), v a row of the call's own, y another row (nil or not); and where the new slice lies. -/
theorem app_row (w : World) (hgd : o.guard = none) (s x : Operand) (t e : TypeId) (z : Value) (size bytes : Nat)
    (ho : o.op = .call { callee := .builtin .append, args := #[s, x], argTypes := #[t, t] }) (ht : P.underlying t = some (.slice e))
    (hinfo : (P.info? e).map (fun i => (i.zero, i.size, i.bytes)) = some (some z, size, bytes)) (hzs : z.cells.size = size) (hsz : 0 < size)
    (B : Nat) (v : Value) (n : Nat) (xs : List Value) (hs : a.eval s = v) (hown : w.ownsRow B e size v n xs) (B2 : Nat) (y : Value) (m : Nat) (ys : List Value) (hx : a.eval x = y) (hy : w.ownsRow B2 e size y m ys)
    (h1 : ∀ u ∈ ys, u.oneCell' = true) (hB : B ≤ w.heap.size) (hl : (n + m) * bytes ≤ 140737488355328) (hn : n + m ≤ 140737488355328)
    (h : ∀ v' w', w'.ownsRow B e size v' (n + m) (xs ++ ys) → Mv (own v) (own v') w w' → wpList P ops Q rest (a.put o.dst v') w') : wpList P ops Q (o :: rest) a w := by
  obtain ⟨i0, hi, hz0, hz1, hz2⟩ := info_parts hinfo
  have hcells := hy.1
  rcases hy.2 with ⟨rfl, rfl⟩ | ⟨g, cap, cur, rfl, hb2, hg, hmc, hcm, hcs, htake⟩
  · have hys : ys = [] := List.eq_nil_of_length_eq_zero (by simpa using hcells)
    subst hys
    refine wpList_plain hgd fun K hK => ?_
    have hr := run_append_owned_none (P := P) w B t o.type e i0 size ht hi v n xs hown
    unfold Oper.wp execOp
    simp only [ho, resolve, invoke, builtin, Sem.run_bind, Sem.run_pure, Result.andThen_ok, List.map_toArray, List.map_cons, List.map_nil, hs, hx, hr]
    exact hK _ _ (h v w (by simpa using hown) (Mv.refl _ _))
  · refine wpList_append_own_at w hgd s x t ho B e i0 z size bytes ht hi hz0 hz1 hz2 hzs hsz v n xs hs hown ⟨g, 0, none⟩ m cap ys hx hcells (fun j u hu => ?_) h1 (by simp only [maxLen]; omega) hl hB ?_
    · have hlt : j < ys.length := (List.getElem?_eq_some_iff.1 hu).1
      rw [add0, hy.cellAt j (by rw [← hcells]; exact hlt)]
      exact hu
    · intro v' w' hown' hg' _ hat
      exact h v' w' hown' (Mv.grown hg' (hat.imp id fun h => ⟨_, h, Nat.le_refl _⟩))
end

/-- A block's cells behind a store. -/
theorem block_setCell {w : World} {b : Nat} {cs : Array Value} {t : TypeId} (h : w.heap[b]? = some (.cells cs t (0, 0))) (i : Nat) (u : Value) (hi : i < cs.size) : (w.setCell ⟨b, i, none⟩ u).heap[b]? = some (.cells (cs.set i u) t (0, 0)) := by
  have hlt := lt_of_block h
  have hb : w.heap[b] = .cells cs t (0, 0) := by rw [Array.getElem?_eq_getElem hlt] at h; simpa using h
  show (w.heap.modify b _)[b]? = _
  rw [Array.getElem?_eq_getElem (by simpa using hlt), Array.getElem_modify_self, hb]
  simp [hi, Array.setIfInBounds]

theorem ints_cells (l : List Int) : ∀ u ∈ ints l, u.oneCell' = true := by
  intro u hu
  unfold ints at hu
  obtain ⟨x, _, rfl⟩ := List.mem_map.1 hu
  rfl

end Go.Proofs.Ytaoamkkgiiiejaa
