/- Rows: copying into them, putting an element into their midst. -/
import Derived.Test.YtaoamkkgiiiejaaRw
import Derived.Lib.AppendZerosOnto
import Derived.Lib.Overlaps
namespace Go.Proofs.Ytaoamkkgiiiejaa
open Go.RowKit
set_option linter.unusedVariables false

section
variable {P : Program}
theorem wpList_copy_runR (w : World) {ops : Array Oper} {rest : List Oper} {o : Oper} {a : Act} {Q : Exit → Act → World → Prop} (hgd : o.guard = none) (d s : Operand) (t t' : TypeId)
    (ho : o.op = .call { callee := .builtin .copy, args := #[d, s], argTypes := #[t, t'] }) (v u : Value) (hd : a.eval d = v) (hs : a.eval s = u) {v' : Value} {w' : World}
    (hr : (Builtin.copy_ #[t, t'] o.type #[v, u]).run P w = .ok v' w') (h : wpList P ops Q rest (a.put o.dst v') w') : wpList P ops Q (o :: rest) a w := by
  refine wpList_plain hgd fun K hK => ?_
  unfold Oper.wp execOp
  simp only [ho, resolve, invoke, builtin, Sem.run_bind, Sem.run_pure, Result.andThen_ok, List.map_toArray, List.map_cons, List.map_nil, hd, hs, hr]
  exact hK _ _ h
theorem step_copy_runR {ops : Array Oper} {o : Oper} {a : Act} {w : World} {K : Act → World → Prop} {Q : Exit → Act → World → Prop} {E : Prop}
    (hg : o.guard = none) (d x : Operand) (dT sT : TypeId) (hop : o.op = Op.call { callee := Callee.builtin Builtin.copy, args := #[d, x], argTypes := #[dT, sT] })
    (v u : Value) (hd : a.eval d = v) (hx : a.eval x = u) {v' : Value} {w' : World} (hr : (Builtin.copy_ #[dT, sT] o.type #[v, u]).run P w = .ok v' w') (hK : K (a.put o.dst v') w') :
    if Region.wanted o (yielded ops a.tmps) = true then Oper.wp P o a w K Q else E := by
  have hw : Region.wanted o (yielded ops a.tmps) = true := by simp [Region.wanted, hg]
  rw [if_pos hw]
  unfold Oper.wp
  simp [execOp, hop, resolve, invoke, builtin, hd, hx, hr, Result.andThen]
  exact hK

/-- copy(d, s), d in a block that is known whole. -/
theorem run_copy_rw (w : World) (dT sT ty e : TypeId) (i0 : TypeInfo) (size : Nat) (g o dLen dCap : Nat) (A : Addr) (sLen sCap k : Nat) (cur : Array Value) (cs : List Value)
    (ht : P.underlying dT = some (.slice e)) (hi : P.info? e = some i0) (hsize : i0.size = size) (hk : k = Nat.min sLen dLen) (hl : cs.length = k * size)
    (hsrc : ∀ j v, cs[j]? = some v → w.cell? (A.add j) = some v) (hg : w.heap[g]? = some (.cells cur e (0, 0))) (hfit : o + cs.length ≤ cur.size) (h1 : ∀ v ∈ cs, v.oneCell' = true) :
    (Builtin.copy_ #[dT, sT] ty #[.slice (some ⟨g, o, none⟩) dLen dCap, .slice (some A) sLen sCap]).run P w = .ok (goInt k) (w.setRow g (cur.toList.take o ++ cs ++ cur.toList.drop (o + cs.length)).toArray) := by
  subst hk hsize
  have hf := run_firstCells_some (P := P) w i0.size (Nat.min sLen dLen) A sLen sCap cs hl hsrc
  have hst := run_storeCells_at P g o e cs 0 cur w hg (by simpa using hfit) h1
  simp only [Nat.add_zero] at hst
  simp [Builtin.copy_, run_underlying ht, sizeOf, typeInfo, hi, Builtin.lenOf, hf, hst]
end

theorem take_app3 (a b c : List Value) (n : Nat) (h : n = a.length + b.length) : (a ++ b ++ c).take n = a ++ b := by subst h; rw [← List.length_append, List.take_left]

/-- What two copies make of a block: its elements from i on moved up by one, another one at i. -/
theorem shift_row (cur : List Value) (xs ys : List Value) (size n i : Nat) (hx : xs.length = n * size) (hin : i ≤ n) (hy : ys.length = size) (hc : (n + 1) * size ≤ cur.length) (ht : cur.take (n * size) = xs)
    (c1 : List Value) (h1 : c1 = cur.take ((i + 1) * size) ++ xs.drop (i * size) ++ cur.drop ((i + 1) * size + (xs.drop (i * size)).length)) :
    (c1.take (i * size) ++ ys ++ c1.drop (i * size + ys.length)).take ((n + 1) * size) = xs.take (i * size) ++ ys ++ xs.drop (i * size) ∧ c1.length = cur.length := by
  have e1 : (i + 1) * size = i * size + size := by rw [Nat.add_mul, Nat.one_mul]
  have e2 : (n + 1) * size = n * size + size := by rw [Nat.add_mul, Nat.one_mul]
  have e3 : i * size ≤ n * size := Nat.mul_le_mul_right _ hin
  have hd : (xs.drop (i * size)).length = n * size - i * size := by rw [List.length_drop, hx]
  have hl : c1.length = cur.length := by
    rw [h1]
    simp only [List.length_append, List.length_take, List.length_drop, hx]
    omega
  have ha : c1.take (i * size) = xs.take (i * size) := by
    rw [h1, List.append_assoc, List.take_append_of_le_length (by rw [List.length_take]; omega), List.take_take, ← ht, List.take_take]
    congr 1
    omega
  have hb : c1.drop (i * size + ys.length) = xs.drop (i * size) ++ cur.drop ((i + 1) * size + (xs.drop (i * size)).length) := by
    rw [h1, hy, ← e1, List.append_assoc]
    have h5 : (cur.take ((i + 1) * size)).length = (i + 1) * size := by rw [List.length_take]; omega
    rw [← h5]
    simp
  refine ⟨?_, hl⟩
  rw [ha, hb, ← List.append_assoc]
  refine List.take_left' ?_
  simp only [List.length_append, List.length_take, hd, hy, hx]
  omega

/-- What three deeds make of a new block: what stood ahead of i, another one, what stood from i on. -/
theorem grown_row (xs ys zs : List Value) (size n i : Nat) (hx : xs.length = n * size) (hin : i ≤ n) (hy : ys.length = size) (cur c1 c2 : List Value) (h0 : cur = xs.take (i * size) ++ zs) (hc : (n + 1) * size ≤ cur.length)
    (h1 : c1 = cur.take (i * size) ++ ys ++ cur.drop (i * size + ys.length)) (h2 : c2 = c1.take ((i + 1) * size) ++ xs.drop (i * size) ++ c1.drop ((i + 1) * size + (xs.drop (i * size)).length)) :
    c2.take ((n + 1) * size) = xs.take (i * size) ++ ys ++ xs.drop (i * size) ∧ c1.length = cur.length ∧ c2.length = cur.length := by
  have e1 : (i + 1) * size = i * size + size := by rw [Nat.add_mul, Nat.one_mul]
  have e2 : (n + 1) * size = n * size + size := by rw [Nat.add_mul, Nat.one_mul]
  have e3 : i * size ≤ n * size := Nat.mul_le_mul_right _ hin
  have hd : (xs.drop (i * size)).length = n * size - i * size := by rw [List.length_drop, hx]
  have hti : (xs.take (i * size)).length = i * size := by rw [List.length_take]; omega
  have l1 : c1.length = cur.length := by
    rw [h1]; simp only [List.length_append, List.length_take, List.length_drop]; omega
  have l2 : c2.length = cur.length := by
    rw [h2]; simp only [List.length_append, List.length_take, List.length_drop, l1, hx]; omega
  have ha : cur.take (i * size) = xs.take (i * size) := by rw [h0]; exact List.take_left' hti
  have hb : c1.take ((i + 1) * size) = xs.take (i * size) ++ ys := by
    rw [h1, ha]
    exact List.take_left' (by rw [List.length_append, hti, hy, e1])
  refine ⟨?_, l1, l2⟩
  rw [h2, hb]
  exact List.take_left' (by simp only [List.length_append, hti, hy, hd]; omega)

end Go.Proofs.Ytaoamkkgiiiejaa
