/- A heap: a record taken away. slices.Delete at records. -/
import Derived.Test.YtlehgmfpblifkaaDoorHeapD
namespace Go.Proofs.YtlehgmfpblifkaaDoor
open Go.RowKit
set_option linter.unusedVariables false
attribute [local go_sem ↓] Go.wp_at_zero Go.wp_at_succ

theorem zeroH : ∀ w, (zeroValue 42).run Tryd.prog w = .ok zDc.agg w := fun w => by kernel_rfl
theorem Mv.of_row {w w' : World} {g n n' c c' : Nat} (h : w.grownBy w' (some g)) : Mv (own (.slice (some ⟨g, 0, none⟩) n c)) (own (.slice (some ⟨g, 0, none⟩) n' c')) w w' :=
  ⟨h.os, h.tape, h.output, h.size, fun j hj hc => h.block j hj fun e => hc e.symm, fun j hj => .inl hj⟩

theorem stepcutH {B g n cap : Nat} {w : World} {xs : List Value} {ops : Array Oper} {o : Oper} {a : Act} {K : Act → World → Prop} {Q : Exit → Act → World → Prop} {E : Prop}
    (h : Rw B w 42 6 (.slice (some ⟨g, 0, none⟩) n cap) n xs) (i j : Nat) (hij : i ≤ j) (hj : j ≤ n) (h1 : ∀ u ∈ xs, u.oneCell' = true)
    (hgd : o.guard = none) (s x : Operand) (hop : o.op = Op.call { callee := Callee.builtin Builtin.append, args := #[s, x], argTypes := #[55, 55] })
    (hs : a.eval s = .slice (some ⟨g, 0, none⟩) i cap) (A : Addr) (m c : Nat) (hx : a.eval x = .slice (some A) m c)
    (hA : j < n → A = ⟨g, j * 6, none⟩) (hm : m = n - j)
    (hK : ∀ w', Rw B w' 42 6 (.slice (some ⟨g, 0, none⟩) (i + m) cap) (i + m) (xs.take (i * 6) ++ xs.drop (j * 6)) → w.grownBy w' (some g) → K (a.put o.dst (.slice (some ⟨g, 0, none⟩) (i + m) cap)) w') :
    if Region.wanted o (yielded ops a.tmps) = true then Oper.wp Tryd.prog o a w K Q else E := by
  have hw : Region.wanted o (yielded ops a.tmps) = true := by simp [Region.wanted, hgd]
  rw [if_pos hw]
  obtain ⟨i0, hi0, hz0, hz1, hz2⟩ := info_parts infoH
  obtain ⟨w', hrun, hown, hg⟩ := run_cut_rw (P := Tryd.prog) h i j hij hj h1 55 o.type i0 Tryd.underlying55 hi0 hz1 A hA m c hm
  unfold Oper.wp
  simp [execOp, hop, resolve, invoke, builtin, hs, hx, hrun, Result.andThen]
  exact hK w' hown hg

theorem clearH {B g n cap : Nat} {w : World} {xs : List Value} {ops : Array Oper} {rest : List Oper} {o : Oper} {a : Act} {Q : Exit → Act → World → Prop} (hgd : o.guard = none) (x : Operand)
    (hop : o.op = Op.call { callee := Callee.builtin Builtin.clear, args := #[x], argTypes := #[55] })
    (h : Rw B w 42 6 (.slice (some ⟨g, 0, none⟩) n cap) n xs) (m c off : Nat) (hx : a.eval x = .slice (some ⟨g, off, none⟩) m c) (hm : 0 < m) (hmc : n + m ≤ cap) (hoff : off = n * 6)
    (hK : ∀ w', Rw B w' 42 6 (.slice (some ⟨g, 0, none⟩) n cap) n xs → w.grownBy w' (some g) → wpList Tryd.prog ops Q rest (a.put o.dst (.tuple #[])) w') : wpList Tryd.prog ops Q (o :: rest) a w := by
  refine wpList_plain hgd fun K hK' => ?_
  obtain ⟨w', hrun, hown, hg⟩ := run_clear_rw (P := Tryd.prog) h m c off hm hmc hoff 55 o.type Tryd.underlying55 _ zeroH rfl (by intro u hu; simp [Value.cells, zDc, zR, Dc.agg, Sl.v] at hu; first | (rcases hu with rfl | rfl <;> rfl) | (rcases hu with rfl | rfl | rfl <;> rfl) | (rcases hu with rfl | rfl | rfl | rfl <;> rfl))
  unfold Oper.wp execOp
  simp only [hop, resolve, invoke, builtin, Sem.run_bind, Sem.run_pure, Result.andThen_ok, List.map_toArray, List.map_cons, List.map_nil, hx, hrun]
  exact hK' _ _ (hK w' hown hg)

set_option maxHeartbeats 1500000 in
set_option maxRecDepth 100000 in
theorem deleteH_any (B : Nat) (v : Value) (n i : Nat) (I J : Int) (xs : List Value) (w : World) (h : Rw B w 42 6 v n xs) (h1 : ∀ u ∈ xs, u.oneCell' = true) (hi : i < n) (hn : n < 1000000000000) (hI : I = (i : Int)) (hJ : J = (i : Int) + 1)
    (R : List Value) (hR : Hid (R = xs.take (i * 6) ++ xs.drop ((i + 1) * 6))) :
    Calls Tryd.prog 21 #[v, .int .i64 I, .int .i64 J] w fun e w' => ∃ v', e = .returned v' ∧ Rw B w' 42 6 v' (n - 1) R ∧ Mv (own v) (own v') w w' := by
  subst hI hJ
  obtain ⟨A, cap, rfl, hnc, hcm, hA0, hA⟩ := h.shape
  rcases A with _ | A
  · have := (hA0 rfl).1; omega
  obtain ⟨g, rfl, hBg, hgl, ⟨cur, hg, hcs⟩, hxc⟩ := hA _ rfl
  have hne : ((i : Int) == (i : Int) + 1) = false := beq_eq_false_iff_ne.2 (by omega)
  obtain ⟨A, hA, HA⟩ : ∃ A : Addr, (if cap = i + 1 then some (⟨g, 0, none⟩ : Addr) else some ⟨g, (i + 1) * 6, none⟩) = some A ∧ Hid (i + 1 < n → A = ⟨g, (i + 1) * 6, none⟩) := by
    by_cases hc : cap = i + 1
    · exact ⟨_, by rw [if_pos hc], fun h => by omega⟩
    · exact ⟨_, by rw [if_neg hc], fun _ => rfl⟩
  have b1 : (i : Int) + 1 ≤ (n : Int) := by omega
  have b2 : (i : Int) ≤ (i : Int) + 1 := by omega
  have b3 : i + 1 ≤ n := by omega
  have b4 : i + 1 ≤ cap := by omega
  have b5 : (i : Int) + 1 ≤ (cap : Int) := by omega
  have b6 : ((i : Int) + 1).toNat = i + 1 := by omega
  have b7 : (0 : Int) ≤ (i : Int) + 1 := by omega
  have b8 : (i : Int) ≤ (cap : Int) := by omega
  clear hxc hg hcs cur
  go_enter Tryd.func21, Tryd.ntmps21
  go_wp2_with fail
  go_region_law (refine stepcutH (w := w.drew) h i (i + 1) (by omega) (by omega) h1 rfl (.tmp 22) (.tmp 25) rfl (by simp [Act.eval, Act.put]) A (n - (i + 1)) (cap - (i + 1)) (by simp [Act.eval, Act.put]) HA.out rfl ?_; intro w1 hown1 hg1)
  rw [← hR.out] at hown1
  obtain ⟨q, hq⟩ : ∃ q, q = n - (i + 1) := ⟨_, rfl⟩
  rw [← hq] at hown1 ⊢
  obtain ⟨r, hr⟩ : ∃ r, r = i + q := ⟨_, rfl⟩
  rw [← hr] at hown1 ⊢
  have hr1 : Hid (r = n - 1) := hid_mk (by omega)
  have q1 : r < n := by omega
  have q2 : r ≤ n := by omega
  have q3 : ¬ (cap = r) := by omega
  have q4 : (r : Int) ≤ (n : Int) := by omega
  have q5 : r + (n - r) ≤ cap := by omega
  have HG : Mv (own (.slice (some ⟨g, 0, none⟩) n cap)) (own (.slice (some ⟨g, 0, none⟩) r cap)) w w1 := ⟨hg1.os, hg1.tape, hg1.output, hg1.size, fun j hj hc => hg1.block j hj fun e => hc e.symm, fun j hj => .inl hj⟩
  clear hq hr hg1 hA b1 b2 b3 b4 b5 b6 b7 b8
  go_wp2_with (refine clearH rfl (.tmp 31) rfl hown1 (n - r) (cap - r) _ rfl (by omega) q5 (by omega) ?_; intro w2 hown2 hg2)
  go_ret
  refine ⟨_, rfl, ?_, HG.trans (Mv.of_row hg2)⟩
  rw [← hr1.out]
  exact hown2


def delD (ds : List Dc) (id : Int) : List Dc := if hasD ds id = true then ds.take (posD ds id) ++ ds.drop (posD ds id + 1) else ds

set_option maxHeartbeats 2000000 in
set_option maxRecDepth 100000 in
theorem hdel_any (B p : Nat) (ds : List Dc) (last id : Int) (F : Nat → Prop) (w : World) (H : Hp B w p ds last F) (hB : B ≤ w.heap.size) (hs : Asc ds) (hl : ds.length < 1000000000) :
    Calls Tryd.prog 10 #[.pointer (some ⟨p, 0, none⟩), .int .i64 id] w fun r w' => r = .returned (.bool (hasD ds id)) ∧ ∃ F', Hp B w' p (delD ds id) last F' ∧ Mv F F' w w' := by
  have HH := hid_mk H
  go_enter Tryd.func10, Tryd.ntmps10
  go_wp2_with fail
  refine (hfind_any B p ds last id F _ HH.out hs (by omega)).mono ?_
  rintro r w1 ⟨rfl, b1⟩
  cases hh : hasD ds id with
  | false =>
    have HL : Hid (delD ds id = ds) := hid_mk (if_neg (by rw [hh]; simp))
    clear H hs
    go_wp2_with fail
    go_ret
    exact ⟨ret_bool hh.symm, F, by rw [HL.out]; exact HH.out.below b1, Mv.of_below b1⟩
  | true =>
    obtain ⟨hk, hid⟩ := has_at hs hh
    have HL : Hid (delD ds id = ds.take (posD ds id) ++ ds.drop (posD ds id + 1)) := hid_mk (if_pos hh)
    obtain ⟨k, hkk⟩ : ∃ k, k = posD ds id := ⟨_, rfl⟩
    rw [← hkk] at hk HL ⊢
    obtain ⟨v, h1, h2, h3, hF⟩ := HH.out.below b1
    have hk1 : IntKind.i64.wrap ((k : Int) + 1) = (k : Int) + 1 := by rw [IntKind.wrap_i64]; omega
    have c0 := (cell_of_row w1 p 0 _ _ _ h1).trans rfl
    have HB1 := hid_mk b1
    have HHH := hid_mk hh
    have H3 := hid_mk h3
    have Z1 := hid_mk h1
    have HF := hid_mk hF
    have HN : Hid (¬ own v p) := hid_mk fun h9 => h3.ne h1 (by decide) h9
    clear H hs hid hkk b1 h3 h1 hF
    go_wp2_with fail
    refine (deleteH_any B v ds.length k _ _ (hcells ds) _ H3.out (hcells_one ds) hk (by omega) rfl rfl (hcells (ds.take k ++ ds.drop (k + 1))) (hid_mk (by rw [hcells_append, hcells_take, hcells_drop]))).mono ?_
    rintro r w2 ⟨v2, rfl, R2, m2⟩
    obtain ⟨A2, cap2, hv2, _, _, _, _⟩ := R2.shape
    have Z2 := m2.at_ Z1.out HN.out
    have c2 := (cell_of_row w2 p 0 _ _ _ Z2).trans rfl
    have f2 : w2.frozen? ⟨p, 0, none⟩ = false := by simp [World.frozen?, Z2]
    have Z3 := block_setCell Z2 0 v2 (by simp)
    have hn2 : v2.ownBlock ≠ some p := R2.ne Z2 (by decide)
    have R3 : Rw B (w2.setCell ⟨p, 0, none⟩ v2) 42 6 v2 (ds.take k ++ ds.drop (k + 1)).length (hcells (ds.take k ++ ds.drop (k + 1))) := by
      have h9 : (ds.take k ++ ds.drop (k + 1)).length = ds.length - 1 := by rw [List.length_append, List.length_take, List.length_drop]; omega
      rw [h9]
      exact R2.setCell_other _ _ hn2
    have M3 : Mv (HpF p v) (HpF p v2) w (w2.setCell ⟨p, 0, none⟩ v2) := by
      have h0 := ((Mv.of_below (F := own v) HB1.out).trans m2)
      refine ⟨h0.os, h0.tape, h0.output, by simpa using h0.size, fun k hk hc => ?_, fun k hk => ?_⟩
      · exact (heap_setCell_other w2 _ k _ fun e9 => hc (.inl e9)).trans (h0.block k hk fun h9 => hc (.inr h9))
      · rcases hk with rfl | hk
        · exact .inl (.inl rfl)
        · exact (h0.new k hk).imp .inr fun h => h
    have HR := hid_mk (And.intro Z3 (And.intro R3 M3))
    clear Z2 Z3 R2 R3 M3 m2 hn2 c0
    subst hv2
    go_wp2_with fail
    go_ret
    exact ⟨ret_bool HHH.out.symm, HpF p _, by rw [HL.out]; exact ⟨_, HR.out.1, h2, HR.out.2.1, rfl⟩, by rw [HF.out]; exact HR.out.2.2⟩

end Go.Proofs.YtlehgmfpblifkaaDoor
