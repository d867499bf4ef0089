/- A row of numbers that begins somewhere in its block: s[1:], and what is appended to it. -/
import Derived.Test.YtehcliogjnpehabGateD
namespace Go.Proofs.Ytehcliogjnpehab
open Go.RowKit
set_option linter.unusedVariables false

/-- A row of numbers of the call's own, that may begin anywhere in its block. -/
def Off (B : Nat) (w : World) (v : Value) (l : List Int) : Prop :=
  (v = .slice none 0 0 ∧ l = []) ∨ ∃ g off cap cur, v = .slice (some ⟨g, off, none⟩) l.length cap ∧ B ≤ g ∧ w.heap[g]? = some (.cells cur 2 (0, 0)) ∧ l.length ≤ cap ∧ cap ≤ 9223372036854775807 ∧ (0 < cap → off + cap ≤ cur.size) ∧
    ∀ i, i < l.length → cur[off + i]? = some (.int .i64 (gi l i))

theorem Off.of_ids {B : Nat} {w : World} {v : Value} {l : List Int} (h : Ids B w v l) : Off B w v l := by
  rcases h.2 with ⟨rfl, h0⟩ | ⟨g, cap, cur, rfl, hb, hg, hnc, hcm, hcs, htake⟩
  · exact .inl ⟨rfl, List.eq_nil_of_length_eq_zero h0⟩
  · refine .inr ⟨g, 0, cap, cur, rfl, hb, hg, hnc, by simp only [maxLen] at hcm; omega, fun _ => by omega, fun i hi => ?_⟩
    have h1 := (World.ownsRow.cellAt h i (by omega)).trans (ints_get l i hi)
    rw [cell_of_row w g i _ _ _ hg] at h1
    rw [Nat.zero_add]
    exact h1

theorem Off.lt {B : Nat} {w : World} {v : Value} {l : List Int} (h : Off B w v l) (k : Nat) (hk : v.ownBlock = some k) : B ≤ k ∧ k < w.heap.size := by
  rcases h with ⟨rfl, _⟩ | ⟨g, off, cap, cur, rfl, hb, hg, _⟩
  · simp [Value.ownBlock] at hk
  · have e : g = k := by simpa [Value.ownBlock] using hk
    subst e
    exact ⟨hb, lt_of_block hg⟩
theorem Mv.off {F F' : Nat → Prop} {w w' : World} (h : Mv F F' w w') {B : Nat} {v : Value} {l : List Int} (ho : Off B w v l) (ha : Apart v F) : Off B w' v l := by
  rcases ho with h2 | ⟨g, off, cap, cur, rfl, hb, hg, r⟩
  · exact .inl h2
  · exact .inr ⟨g, off, cap, cur, rfl, hb, h.at_ hg (ha g rfl), r⟩
theorem Off.below {B : Nat} {w w' : World} {v : Value} {l : List Int} (h : Off B w v l) (hb : Below w.heap.size w w') : Off B w' v l :=
  (Mv.of_below (F := fun _ => False) hb).off h fun _ _ h => h
theorem gi_snoc (l : List Int) (x : Int) (i : Nat) : gi (l ++ [x]) i = if i < l.length then gi l i else if i = l.length then x else 0 := by
  unfold gi
  rw [List.getD_eq_getElem?_getD]
  by_cases h : i < l.length
  · rw [if_pos h, List.getElem?_append_left h, List.getD_eq_getElem?_getD]
  · rw [if_neg h, List.getElem?_append_right (by omega)]
    by_cases e : i = l.length
    · rw [if_pos e, e]; simp
    · rw [if_neg e, List.getElem?_eq_none (by simp; omega)]; rfl

/-- append(v, x), v such a row. -/
theorem run_app_off (B : Nat) (v : Value) (l : List Int) (x : Int) (W : World) (t ty : TypeId) (ht : Try.prog.underlying t = some (.slice 2)) (h : Off B W v l) (hB : B ≤ W.heap.size) (hl : l.length < 1000000000000) :
    ∃ v' w', (Builtin.append_ #[t, t] ty #[v, .slice (some ⟨W.heap.size, 0, none⟩) 1 1]).run Try.prog (W.alloc (.cells #[.int .i64 x] 2)) = .ok v' w' ∧ Off B w' v' (l ++ [x]) ∧ Mv (own v) (own v') W w' := by
  obtain ⟨i0, hi, hz0, hz1, hz2⟩ := info_parts info2
  have h0 : Mv (own v) (own v) W (W.alloc (.cells #[.int .i64 x] 2)) := .of_below (balloc _)
  have hsz : W.heap.size ≤ (W.alloc (.cells #[.int .i64 x] 2)).heap.size := by simp
  have hnew : ∀ j u, [Value.int .i64 x][j]? = some u → (W.alloc (.cells #[.int .i64 x] 2)).cell? ((⟨W.heap.size, 0, none⟩ : Addr).add j) = some u := cell_one_new _ _ _
  have grown : ∀ sv n c, (n = l.length) → (∃ cur', (Builtin.append_ #[t, t] ty #[sv, .slice (some ⟨W.heap.size, 0, none⟩) 1 1]).run Try.prog (W.alloc (.cells #[.int .i64 x] 2)) = .ok (.slice (some ⟨(W.alloc (.cells #[.int .i64 x] 2)).heap.size, 0, none⟩) (n + 1) c) ((W.alloc (.cells #[.int .i64 x] 2)).drew.alloc (.cells cur' 2)) ∧ n + 1 ≤ c ∧ c ≤ 9223372036854775807 ∧ c ≤ cur'.size ∧ cur'.toList.take (n + 1) = ints (l ++ [x])) →
      ∃ v' w', (Builtin.append_ #[t, t] ty #[sv, .slice (some ⟨W.heap.size, 0, none⟩) 1 1]).run Try.prog (W.alloc (.cells #[.int .i64 x] 2)) = .ok v' w' ∧ Off B w' v' (l ++ [x]) ∧ Mv (own v) (own v') W w' := by
    rintro sv n c rfl ⟨cur', hr, h1, h2, h3, h4⟩
    refine ⟨_, _, hr, .inr ⟨_, 0, c, cur', by rw [List.length_append]; rfl, Nat.le_trans hB hsz, heap_alloc_new (W.alloc (.cells #[.int .i64 x] 2)).drew _, by rw [List.length_append]; exact h1, h2, fun _ => by omega, fun i hi => ?_⟩, ?_⟩
    · rw [List.length_append] at hi
      have h5 := ints_get (l ++ [x]) i (by rw [List.length_append]; exact hi)
      rw [← h4, List.getElem?_take, if_pos (show i < l.length + 1 from hi)] at h5
      rw [Nat.zero_add]
      have h6 : cur'.toList[i]? = cur'[i]? := by simp
      rw [← h6]
      exact h5
    · refine ⟨rfl, rfl, rfl, by simp; omega, fun k hk hc => ?_, fun k hk => .inr ?_⟩
      · rw [heap_alloc_old (W.alloc (.cells #[.int .i64 x] 2)).drew _ (by show k < (W.alloc (.cells #[.int .i64 x] 2)).heap.size; omega)]
        exact h0.block k hk hc
      · have e : (W.alloc (.cells #[.int .i64 x] 2)).heap.size = k := by simpa [own, Value.ownBlock] using hk
        omega
  rcases h with ⟨rfl, rfl⟩ | ⟨g, off, cap, cur, rfl, hb, hg, hlc, hcm, hoc, hcs⟩
  · have hr := run_append_nil (P := Try.prog) (W.alloc (.cells #[.int .i64 x] 2)) t ty 2 i0 _ ht hi hz0 ⟨W.heap.size, 0, none⟩ 1 1 [.int .i64 x] (by rw [hz1]; rfl) hnew (by omega) (by omega) (by rw [hz2]; decide)
    refine grown _ 0 _ rfl ⟨_, hr, ?_, ?_, ?_, ?_⟩
    · exact grownCap_ge _ _ _ _
    · have := grownCap_le_maxLen (W.alloc (.cells #[.int .i64 x] 2)) 1 0 2 (by decide); simp only [maxLen] at this; omega
    · have h1 := grownCap_ge (W.alloc (.cells #[.int .i64 x] 2)) 1 0 2
      simp only [Array.size_append, List.size_toArray, size_zeroCells, Value.cells]
      simp
      omega
    · simp [ints]
  · by_cases hroom : l.length + 1 ≤ cap
    · have hg' : (W.alloc (.cells #[.int .i64 x] 2)).heap[g]? = some (.cells cur 2 (0, 0)) := by rw [heap_alloc_old W _ (lt_of_block hg)]; exact hg
      have hfit : off + l.length + 1 ≤ cur.size := by have := hoc (by omega); omega
      have hf := run_firstCells_some (P := Try.prog) (W.alloc (.cells #[.int .i64 x] 2)) 1 1 ⟨W.heap.size, 0, none⟩ 1 1 [.int .i64 x] rfl hnew
      have hst := run_storeCells_at Try.prog g (off + l.length) 2 [.int .i64 x] 0 cur _ hg' (by simpa using hfit) (by intro u hu; simp at hu; subst hu; rfl)
      simp only [Nat.add_zero] at hst
      refine ⟨.slice (some ⟨g, off, none⟩) (l.length + 1) cap, _, by simp [Builtin.append_, run_underlying ht, sizeOf, typeInfo, hi, hz1, Builtin.lenOf, hroom, hf, Addr.add_lit, hst]; rfl, ?_, ?_⟩
      · refine .inr ⟨g, off, cap, _, by rw [List.length_append]; rfl, hb, setRow_heap _ g cur _ _ _ hg', by rw [List.length_append]; exact hroom, hcm, fun h1 => ?_, fun k hk => ?_⟩
        · have := hoc h1
          simp
          omega
        · rw [List.length_append] at hk
          rw [gi_snoc]
          have hT : (cur.toList.take (off + l.length)).length = off + l.length := by
            have h9 : cur.toList.length = cur.size := Array.length_toList
            rw [List.length_take]; omega
          rw [List.getElem?_toArray]
          by_cases hkl : k < l.length
          · rw [if_pos hkl, List.getElem?_append_left (by omega), List.getElem?_take, if_pos (by omega)]
            have h6 : cur.toList[off + k]? = cur[off + k]? := by simp
            rw [h6]
            exact hcs k hkl
          · have e : k = l.length := by have : [x].length = 1 := rfl; omega
            subst e
            rw [if_neg hkl, if_pos rfl, List.getElem?_append_right (by omega), hT]
            simp
      · refine ⟨rfl, rfl, rfl, ?_, fun k hk hc => ?_, fun k hk => .inl hk⟩
        · simp [World.setRow]
        · have hkg : k ≠ g := fun e => hc (by show (Value.slice (some ⟨g, off, none⟩) l.length cap).ownBlock = some k; rw [e]; rfl)
          rw [setRow_other _ g k _ hkg]
          exact h0.block k hk hc
    · have hr := run_append_grow (P := Try.prog) (W.alloc (.cells #[.int .i64 x] 2)) t ty 2 i0 _ ht hi hz0 ⟨g, off, none⟩ l.length cap (ints l) (by rw [hz1, ints_length]; omega) ?_ ⟨W.heap.size, 0, none⟩ 1 1 [.int .i64 x] (by rw [hz1]; rfl) hnew (by omega) (by omega) (by rw [hz2]; exact growslice_fits (by omega) (by omega))
      · refine grown _ _ _ rfl ⟨_, hr, ?_, ?_, ?_, ?_⟩
        · exact grownCap_ge _ _ _ _
        · have := grownCap_le_maxLen (W.alloc (.cells #[.int .i64 x] 2)) (l.length + 1) cap 2 (by simp only [maxLen]; omega); simp only [maxLen] at this; omega
        · have h1 := grownCap_ge (W.alloc (.cells #[.int .i64 x] 2)) (l.length + 1) cap 2
          simp only [Array.size_append, List.size_toArray, size_zeroCells, Value.cells, ints_length]
          simp
          omega
        · rw [ints_append]
          simp only [Array.toList_append, List.append_assoc]
          rw [← List.append_assoc]
          refine (List.take_left' ?_).trans rfl
          simp [ints]
      · intro k u hu
        have hk : k < l.length := by have := (List.getElem?_eq_some_iff.1 hu).1; rw [ints_length] at this; exact this
        rw [ints_get l k hk] at hu
        rw [Addr.add_lit, World.cell?_of_block (w := W) (by exact heap_alloc_old W _ (lt_of_block hg)), cell_of_row W g _ _ _ _ hg, hcs k hk]
        exact hu

theorem app_off {ops : Array Oper} {rest : List Oper} {o : Oper} {a : Act} {Q : Exit → Act → World → Prop} (W : World) (hgd : o.guard = none) (s x : Operand) (t : TypeId)
    (ho : o.op = .call { callee := .builtin .append, args := #[s, x], argTypes := #[t, t] }) (ht : Try.prog.underlying t = some (.slice 2)) (B : Nat) (v : Value) (l : List Int) (y : Int) (hs : a.eval s = v)
    (N : Nat) (hx : a.eval x = .slice (some ⟨N, 0, none⟩) 1 1) (hN : N = W.heap.size) (hown : Off B W v l) (hB : B ≤ W.heap.size) (hl : l.length < 1000000000000)
    (h : ∀ v' w', Off B w' v' (l ++ [y]) → Mv (own v) (own v') W w' → wpList Try.prog ops Q rest (a.put o.dst v') w') : wpList Try.prog ops Q (o :: rest) a (W.alloc (.cells #[.int .i64 y] 2)) := by
  subst hN
  refine wpList_plain hgd fun K hK => ?_
  obtain ⟨v', w', hr, h2, h3⟩ := run_app_off B v l y W t o.type ht hown hB hl
  unfold Oper.wp execOp
  simp only [ho, resolve, invoke, builtin, Sem.run_bind, Sem.run_pure, Result.andThen_ok, List.map_toArray, List.map_cons, List.map_nil, hs, hx, hr]
  exact hK _ _ (h v' w' h2 h3)

/-- s[1:]. -/
theorem Off.tail {B : Nat} {w : World} {g off n cap : Nat} {l : List Int} (h : Off B w (.slice (some ⟨g, off, none⟩) n cap) l) (hn : n = l.length) (h0 : 0 < l.length) (A : Addr) (hA : A = if cap = 1 then ⟨g, off, none⟩ else ⟨g, off + 1, none⟩) :
    Off B w (.slice (some A) (n - 1) (cap - 1)) (l.drop 1) := by
  subst hn hA
  rcases h with ⟨h1, _⟩ | ⟨g', off', cap', cur, he, hb, hg, hlc, hcm, hoc, hcs⟩
  · injection h1 with h1; cases h1
  · injection he with h1 h2 h3
    injection h1 with h1
    injection h1 with h1 h4
    subst h1 h3 h4
    have hld : (l.drop 1).length = l.length - 1 := by rw [List.length_drop]
    by_cases hc : cap = 1
    · rw [if_pos hc]
      refine .inr ⟨g, off, cap - 1, cur, by rw [hld], hb, hg, by omega, by omega, fun h => by omega, fun i hi => by omega⟩
    · rw [if_neg hc]
      refine .inr ⟨g, off + 1, cap - 1, cur, by rw [hld], hb, hg, by omega, by omega, fun h => by have := hoc (by omega); omega, fun i hi => ?_⟩
      have h1 := hcs (i + 1) (by omega)
      have e : gi (l.drop 1) i = gi l (i + 1) := by unfold gi; rw [List.getD_eq_getElem?_getD, List.getElem?_drop, List.getD_eq_getElem?_getD, Nat.add_comm 1 i]
      rw [e, show off + 1 + i = off + (i + 1) by omega]
      exact h1

end Go.Proofs.Ytehcliogjnpehab
