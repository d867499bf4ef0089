/- Sets of numbers as maps to bools; going through a map. -/
import Derived.Test.YtlehgmfpblifkaaDoorMaps
import Derived.Test.YtlehgmfpblifkaaDoorHeapA
import Derived.Maps.RangeRun
namespace Go.Proofs.YtlehgmfpblifkaaDoor
open Go.RowKit
open Go.ChangeMaps (setBlock)
set_option linter.unusedVariables false

def SetOf (l : KV) (S : Int → Bool) : Prop := ∀ id, kvGet l id = if S id = true then some (.bool true) else none
theorem SetOf.nil : SetOf [] (fun _ => false) := fun id => rfl
theorem SetOf.put {l : KV} {S : Int → Bool} (h : SetOf l S) (k : Int) : SetOf (kvPut l k (.bool true)) (fun x => decide (x = k) || S x) := fun id => by
  rw [kvGet_put, h id]
  by_cases hk : id = k
  · simp [hk]
  · simp [hk]
theorem SetOf.del {l : KV} {S : Int → Bool} (h : SetOf l S) (hn : (kvKeys l).Nodup) (k : Int) : SetOf (kvDel l k) (fun x => !decide (x = k) && S x) := fun id => by
  rw [kvGet_del l k id hn, h id]
  by_cases hk : id = k
  · simp [hk]
  · simp [hk]
theorem SetOf.look {l : KV} {S : Int → Bool} (h : SetOf l S) (k : Int) : (kvGet l k).getD (.bool false) = .bool (S k) := by
  rw [h k]
  cases S k <;> rfl
theorem MapAt.nodup {w : World} {r : Nat} {l : KV} (h : MapAt w r l) : (kvKeys l).Nodup := by
  obtain ⟨_, _, _, _, _, _, h5⟩ := h
  exact h5
/-- An entry of a map is a pair of its list. -/
theorem ent_mem {es : List MapEntry} {l : KV} (h : Ent es l) {e : MapEntry} (he : e ∈ es) : ∃ k v, (k, v) ∈ l ∧ e.key = .int .i64 k ∧ e.val = v := by
  have h1 : (e.key, e.val) ∈ es.map (fun e => (e.key, e.val)) := List.mem_map.2 ⟨e, he, rfl⟩
  rw [h] at h1
  obtain ⟨⟨k, v⟩, h2, h3⟩ := List.mem_map.1 h1
  injection h3 with h4 h5
  exact ⟨k, v, h2, h4.symm, h5.symm⟩
theorem kv_get_mem : ∀ {l : KV} {k : Int} {v : Value}, (kvKeys l).Nodup → (k, v) ∈ l → kvGet l k = some v
  | (k', v') :: l, k, v, hn, h => by
    have hn' := List.nodup_cons.1 hn
    show (if k == k' then some v' else kvGet l k) = some v
    rcases List.mem_cons.1 h with h1 | h1
    · injection h1 with h2 h3
      subst h2 h3
      simp
    · have hk : k ∈ kvKeys l := List.mem_map.2 ⟨(k, v), h1, rfl⟩
      have hne : ¬ k = k' := fun e => hn'.1 (e ▸ hk)
      rw [if_neg (by simpa using hne)]
      exact kv_get_mem hn'.2 h1
/-- Blocks of cells are no map's. -/
theorem Hp.no_map {B : Nat} {w : World} {p : Nat} {ds : List Dc} {last : Int} {F : Nat → Prop} (H : Hp B w p ds last F) {r : Nat} {l : KV} (M : MapAt w r l) : ¬ F r := fun h => by
  obtain ⟨v, h1, h2, h3, rfl⟩ := H
  obtain ⟨es, c, hm, _⟩ := M
  rcases h with rfl | h
  · rw [hm] at h1; cases h1
  · obtain ⟨_, _, cs, fr, hb⟩ := h3.hasT r h
    rw [hm] at hb; cases hb
theorem Hp.grown {B : Nat} {w w' : World} {p : Nat} {ds : List Dc} {last : Int} {F : Nat → Prop} (H : Hp B w p ds last F) {r : Nat} {l : KV} (M : MapAt w r l) (hg : w.grownBy w' (some r)) : Hp B w' p ds last F :=
  H.stays fun k hk => hg.block k (H.foot k hk).2 fun e => by
    injection e with e
    exact H.no_map M (e ▸ hk)
theorem MapAt.mv {F F' : Nat → Prop} {w w' : World} {r : Nat} {l : KV} (M : MapAt w r l) (h : Mv F F' w w') (hF : ¬ F r) : MapAt w' r l := by
  obtain ⟨es, c, hm, rest⟩ := M
  exact ⟨es, c, h.at_ hm hF, rest⟩
theorem below_grown {B : Nat} {w0 w w' : World} (h : Below B w0 w) {r : Nat} (hr : B ≤ r) (hw : B ≤ w.heap.size) (hg : w.grownBy w' (some r)) : Below B w0 w' :=
  h.trans ⟨hg.os, hg.tape, hg.output, hg.size, fun k hk => hg.block k (by omega) fun e => by injection e with e; omega⟩
theorem MapAt.other {w w' : World} {r r' : Nat} {l : KV} (M : MapAt w r l) (hg : w.grownBy w' (some r')) (hne : r ≠ r') : MapAt w' r l := M.kept hg (fun e => hne (by injection e))
theorem setBlock_other {w : World} {r k : Nat} (o : Obj) (hk : k ≠ r) : (setBlock w r o).heap[k]? = w.heap[k]? := by
  show (w.heap.setIfInBounds r o)[k]? = _
  rw [Array.getElem?_setIfInBounds, if_neg (fun e => hk e.symm)]
theorem setBlock_size {w : World} {r : Nat} (o : Obj) : (setBlock w r o).heap.size = w.heap.size := by simp [setBlock]

end Go.Proofs.YtlehgmfpblifkaaDoor
