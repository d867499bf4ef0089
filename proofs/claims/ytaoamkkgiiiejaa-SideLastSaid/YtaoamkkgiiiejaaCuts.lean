/- Rows that a call owns: cut short, joined to a part of themselves, cleared behind their end. Of whatever element type. -/
import Derived.Test.YtaoamkkgiiiejaaBase
import Derived.Deep.RegionLaw
namespace Go.Proofs.Ytaoamkkgiiiejaa
open Go.RowKit
set_option linter.unusedVariables false

section
variable {P : Program} {w : World} {B : Nat} {e : TypeId} {size g n cap : Nat} {xs : List Value}

/-- The first i elements of an owned row are an owned row. -/
theorem own_prefix (h : w.ownsRow B e size (.slice (some ⟨g, 0, none⟩) n cap) n xs) (i : Nat) (hi : i ≤ n) : w.ownsRow B e size (.slice (some ⟨g, 0, none⟩) i cap) i (xs.take (i * size)) := by
  have hle : i * size ≤ n * size := Nat.mul_le_mul_right _ hi
  rcases h.2 with ⟨h', _⟩ | ⟨g', cap', cur, h', hb, hg, hnc, hcm, hcs, htake⟩
  · simp at h'
  · simp only [Value.slice.injEq, Option.some.injEq, Addr.mk.injEq, and_true, true_and] at h'
    obtain ⟨rfl, rfl⟩ := h'
    refine ⟨by rw [List.length_take, h.1]; omega, .inr ⟨g, cap, cur, rfl, hb, hg, by omega, hcm, hcs, ?_⟩⟩
    rw [← htake, List.take_take, Nat.min_eq_left hle]

/-- append(s[:i], s[j:]...) on an owned row. -/
theorem run_cut (h : w.ownsRow B e size (.slice (some ⟨g, 0, none⟩) n cap) n xs) (i j : Nat) (hij : i ≤ j) (hj : j ≤ n) (h1 : ∀ u ∈ xs, u.oneCell' = true)
    (t ty : TypeId) (ti : TypeInfo) (ht : P.underlying t = some (.slice e)) (hi : P.info? e = some ti) (hsize : ti.size = size) (A : Addr) (hA : j < n → A = ⟨g, j * size, none⟩) (m c : Nat) (hm : m = n - j) :
    ∃ w', (Builtin.append_ #[t, t] ty #[.slice (some ⟨g, 0, none⟩) i cap, .slice (some A) m c]).run P w = .ok (.slice (some ⟨g, 0, none⟩) (i + m) cap) w' ∧
      w'.ownsRow B e size (.slice (some ⟨g, 0, none⟩) (i + m) cap) (i + m) (xs.take (i * size) ++ xs.drop (j * size)) ∧ w.grownBy w' (some g) := by
  subst hm
  have hcap : n ≤ cap := by
    rcases h.2 with ⟨h', _⟩ | ⟨g', cap', cur, h', hb, hg, hnc, _⟩
    · simp at h'
    · simp only [Value.slice.injEq, Option.some.injEq, Addr.mk.injEq, and_true, true_and] at h'
      omega
  have hl : (xs.drop (j * size)).length = (n - j) * size := by rw [List.length_drop, h.1, Nat.sub_mul]
  refine run_append_fits w B t ty e ti size ht hi hsize g i cap _ (own_prefix h i (by omega)) A (n - j) c _ hl (fun q u hq => ?_) (fun u hu => h1 u (List.mem_of_mem_drop hu)) (by omega)
  have hq1 : q < (xs.drop (j * size)).length := (List.getElem?_eq_some_iff.1 hq).1
  rw [hl] at hq1
  have hjn : j < n := by
    rcases Nat.lt_or_ge j n with h' | h'
    · exact h'
    · rw [show n - j = 0 by omega] at hq1; simp at hq1
  rw [hA hjn, Addr.add_lit, h.cellAt _ (by rw [Nat.sub_mul] at hq1; omega)]
  rw [List.getElem?_drop] at hq
  exact hq

/-- The same, as a step of a region that draws its order. -/
theorem step_cut {ops : Array Oper} {o : Oper} {a : Act} {K : Act → World → Prop} {Q : Exit → Act → World → Prop} {E : Prop}
    (h : w.ownsRow B e size (.slice (some ⟨g, 0, none⟩) n cap) n xs) (i j : Nat) (hij : i ≤ j) (hj : j ≤ n) (h1 : ∀ u ∈ xs, u.oneCell' = true)
    (hgd : o.guard = none) (s x : Operand) (t : TypeId) (hop : o.op = Op.call { callee := Callee.builtin Builtin.append, args := #[s, x], argTypes := #[t, t] })
    (ti : TypeInfo) (ht : P.underlying t = some (.slice e)) (hi : P.info? e = some ti) (hsize : ti.size = size) (hs : a.eval s = .slice (some ⟨g, 0, none⟩) i cap) (A : Addr) (m c : Nat) (hx : a.eval x = .slice (some A) m c)
    (hA : j < n → A = ⟨g, j * size, none⟩) (hm : m = n - j)
    (hK : ∀ w', w'.ownsRow B e size (.slice (some ⟨g, 0, none⟩) (i + m) cap) (i + m) (xs.take (i * size) ++ xs.drop (j * size)) → w.grownBy w' (some g) → K (a.put o.dst (.slice (some ⟨g, 0, none⟩) (i + m) cap)) w') :
    if Region.wanted o (yielded ops a.tmps) = true then Oper.wp P o a w K Q else E := by
  have hw : Region.wanted o (yielded ops a.tmps) = true := by simp [Region.wanted, hgd]
  rw [if_pos hw]
  obtain ⟨w', hrun, hown, hg⟩ := run_cut (P := P) h i j hij hj h1 t o.type ti ht hi hsize A hA m c hm
  unfold Oper.wp
  simp [execOp, hop, resolve, invoke, builtin, hs, hx, hrun, Result.andThen]
  exact hK w' hown hg

/-- clear(s[n:n+m]) behind an owned row's end. -/
theorem run_clear_own (h : w.ownsRow B e size (.slice (some ⟨g, 0, none⟩) n cap) n xs) (m c off : Nat) (hm : 0 < m) (hmc : n + m ≤ cap) (hoff : off = n * size) (t ty : TypeId) (ht : P.underlying t = some (.slice e)) (z : Value)
    (hz : ∀ w, (zeroValue e).run P w = .ok z w) (hzs : z.cells.size = size) (h1 : ∀ u ∈ z.cells.toList, u.oneCell' = true) :
    ∃ w', (Builtin.clear_ #[t] ty #[.slice (some ⟨g, off, none⟩) m c]).run P w = .ok (.tuple #[]) w' ∧ w'.ownsRow B e size (.slice (some ⟨g, 0, none⟩) n cap) n xs ∧ w.grownBy w' (some g) := by
  subst hoff
  have hlen : (Builtin.zeroCells z.cells m).toList.length = m * size := by rw [Array.length_toList, size_zeroCells, hzs]
  have hmem : ∀ u ∈ (Builtin.zeroCells z.cells m).toList, u.oneCell' = true := by
    intro u hu
    simp only [Builtin.zeroCells, Array.toList_map, List.mem_map, Array.toList_range, List.mem_range] at hu
    obtain ⟨i, hi, rfl⟩ := hu
    have hpos : 0 < z.cells.size := by
      rcases Nat.eq_zero_or_pos z.cells.size with h0 | h0
      · rw [h0] at hi; simp at hi
      · exact h0
    have hlt : i % z.cells.size < z.cells.size := Nat.mod_lt _ hpos
    rw [getElem!_pos z.cells _ hlt]
    exact h1 _ (Array.getElem_mem_toList hlt)
  rcases h.2 with ⟨h', _⟩ | ⟨g', cap', cur, h', hb, hg, hnc, hcm, hcs, htake⟩
  · simp at h'
  · simp only [Value.slice.injEq, Option.some.injEq, Addr.mk.injEq, and_true, true_and] at h'
    obtain ⟨rfl, rfl⟩ := h'
    have hfit : n * size + (Builtin.zeroCells z.cells m).toList.length ≤ cur.size := by
      rw [hlen, hcs, ← Nat.add_mul]; exact Nat.mul_le_mul_right _ hmc
    have hst := run_storeCells_at P g (n * size) e (Builtin.zeroCells z.cells m).toList 0 cur w hg (by simpa using hfit) hmem
    simp only [Nat.add_zero] at hst
    obtain ⟨k, rfl⟩ : ∃ k, m = k + 1 := ⟨m - 1, by omega⟩
    refine ⟨_, by simp [Builtin.clear_, run_underlying ht, hz, hst]; rfl, ⟨h.1, .inr ⟨g, cap, _, rfl, hb, setRow_heap w g cur _ e _ hg, hnc, hcm, ?_, ?_⟩⟩, ⟨rfl, rfl, rfl, by simp, fun k _ hk => setRow_other w g k _ (fun e => hk (by simp [e]))⟩⟩
    · simp only [List.size_toArray, List.length_append, List.length_take, List.length_drop, Array.length_toList]
      rw [Array.length_toList] at hfit
      omega
    · have hn : n * size ≤ cur.toList.length := by rw [Array.length_toList]; omega
      rw [← htake]
      show List.take (n * size) (List.take (n * size) cur.toList ++ (_ ++ _)) = _
      rw [List.take_append_of_le_length (by rw [List.length_take]; omega), List.take_take, Nat.min_self]

theorem wpList_clear_own {ops : Array Oper} {rest : List Oper} {o : Oper} {a : Act} {Q : Exit → Act → World → Prop} (hgd : o.guard = none) (x : Operand) (t : TypeId)
    (hop : o.op = Op.call { callee := Callee.builtin Builtin.clear, args := #[x], argTypes := #[t] })
    (h : w.ownsRow B e size (.slice (some ⟨g, 0, none⟩) n cap) n xs) (m c off : Nat) (hx : a.eval x = .slice (some ⟨g, off, none⟩) m c) (hm : 0 < m) (hmc : n + m ≤ cap) (hoff : off = n * size) (ht : P.underlying t = some (.slice e)) (z : Value)
    (hz : ∀ w, (zeroValue e).run P w = .ok z w) (hzs : z.cells.size = size) (h1 : ∀ u ∈ z.cells.toList, u.oneCell' = true)
    (hK : ∀ w', w'.ownsRow B e size (.slice (some ⟨g, 0, none⟩) n cap) n xs → w.grownBy w' (some g) → wpList P ops Q rest (a.put o.dst (.tuple #[])) w') : wpList P ops Q (o :: rest) a w := by
  refine wpList_plain hgd fun K hK' => ?_
  obtain ⟨w', hrun, hown, hg⟩ := run_clear_own (P := P) h m c off hm hmc hoff t o.type ht z hz hzs h1
  unfold Oper.wp execOp
  simp only [hop, resolve, invoke, builtin, Sem.run_bind, Sem.run_pure, Result.andThen_ok, List.map_toArray, List.map_cons, List.map_nil, hx, hrun]
  exact hK' _ _ (hK w' hown hg)
end

/-- append(v, y...), v a row of the call's own, y another row (nil or not). -/
theorem wpList_app_row {P : Program} {ops : Array Oper} {rest : List Oper} {o : Oper} {a : Act} {Q : Exit → Act → World → Prop} (w : World) (hgd : o.guard = none) (s x : Operand) (t e : TypeId) (z : Value) (size bytes : Nat)
    (ho : o.op = .call { callee := .builtin .append, args := #[s, x], argTypes := #[t, t] }) (ht : P.underlying t = some (.slice e))
    (hinfo : (P.info? e).map (fun i => (i.zero, i.size, i.bytes)) = some (some z, size, bytes)) (hzs : z.cells.size = size) (hsz : 0 < size)
    (B : Nat) (v : Value) (n : Nat) (xs : List Value) (hs : a.eval s = v) (hown : w.ownsRow B e size v n xs) (B2 : Nat) (y : Value) (m : Nat) (ys : List Value) (hx : a.eval x = y) (hy : w.ownsRow B2 e size y m ys)
    (h1 : ∀ u ∈ ys, u.oneCell' = true) (hB : B ≤ w.heap.size) (hl : (n + m) * bytes ≤ 140737488355328) (hn : n + m ≤ 140737488355328)
    (h : ∀ v' w', w'.ownsRow B e size v' (n + m) (xs ++ ys) → Only [e] B w w' → wpList P ops Q rest (a.put o.dst v') w') : wpList P ops Q (o :: rest) a w := by
  obtain ⟨i0, hi, hz0, hz1, hz2⟩ := info_parts hinfo
  have hcells := hy.1
  rcases hy.2 with ⟨rfl, rfl⟩ | ⟨g, cap, cur, rfl, hb2, hg, hmc, hcm, hcs, htake⟩
  · have hys : ys = [] := List.eq_nil_of_length_eq_zero (by simpa using hcells)
    subst hys
    refine wpList_plain hgd fun K hK => ?_
    have hr := run_append_owned_none (P := P) w B t o.type e i0 size ht hi v n xs hown
    unfold Oper.wp execOp
    simp only [ho, resolve, invoke, builtin, Sem.run_bind, Sem.run_pure, Result.andThen_ok, List.map_toArray, List.map_cons, List.map_nil, hs, hx, hr]
    exact hK _ _ (h v w (by simpa using hown) (Only.refl _ _ _))
  · refine wpList_append_own w hgd s x t ho B e i0 z size bytes ht hi hz0 hz1 hz2 hzs hsz v n xs hs hown ⟨g, 0, none⟩ m cap ys hx hcells (fun j u hu => ?_) h1 (by simp only [maxLen]; omega) hl hB ?_
    · have hlt : j < ys.length := (List.getElem?_eq_some_iff.1 hu).1
      rw [add0, hy.cellAt j (by rw [← hcells]; exact hlt)]
      exact hu
    · intro v' w' hown' hg' _
      refine h v' w' hown' (Only.grown hg' fun k hk => ?_)
      have h2 := ownsRow_hasT hown k hk
      exact ⟨h2.1, e, List.mem_cons_self .., h2.2⟩

end Go.Proofs.Ytaoamkkgiiiejaa
