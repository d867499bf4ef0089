/- Maps that a call makes, with keys of type int64: looked up, written, struck from, counted, gone through. -/
import Derived.Test.YtlehgmfpblifkaaDoorBase
import Derived.Maps.RangeWalk
import Derived.Maps.RangeRun
import Derived.MapKept
namespace Go.Proofs.YtlehgmfpblifkaaDoor
open Go.RowKit
open Go.ChangeMaps (setBlock)
set_option linter.unusedVariables false

/-! ### Lists of keys and values -/
abbrev KV := List (Int × Value)
def kvFind : KV → Int → Nat → Option (Nat × Value)
  | [], _, _ => none
  | x :: r, k, i => if k == x.1 then some (i, x.2) else kvFind r k (i + 1)
def kvGet : KV → Int → Option Value
  | [], _ => none
  | x :: r, k => if k == x.1 then some x.2 else kvGet r k
def kvPut : KV → Int → Value → KV
  | [], k, v => [(k, v)]
  | x :: r, k, v => if k == x.1 then (k, v) :: r else x :: kvPut r k v
def kvDel : KV → Int → KV
  | [], _ => []
  | x :: r, k => if k == x.1 then r else x :: kvDel r k
def kvKeys (l : KV) : List Int := l.map (·.1)

theorem kvFind_get (l : KV) (k : Int) : ∀ i, (kvFind l k i).map (·.2) = kvGet l k := by
  induction l with
  | nil => intro i; rfl
  | cons x r ih =>
    intro i
    unfold kvFind kvGet
    by_cases h : (k == x.1) = true
    · rw [if_pos h, if_pos h]; rfl
    · rw [if_neg h, if_neg h]; exact ih _
theorem kvFind_none (l : KV) (k : Int) (i : Nat) : kvFind l k i = none ↔ kvGet l k = none := by
  rw [← kvFind_get l k i]; simp
theorem kvFind_some (l : KV) (k : Int) : ∀ (i j : Nat) (v : Value), kvFind l k i = some (j, v) → i ≤ j ∧ l[j - i]? = some (k, v) ∧ (∀ u, kvPut l k u = l.set (j - i) (k, u)) ∧ kvDel l k = l.eraseIdx (j - i) := by
  induction l with
  | nil => intro i j v h; simp [kvFind] at h
  | cons x r ih =>
    intro i j v h
    unfold kvFind at h
    by_cases hk : (k == x.1) = true
    · rw [if_pos hk] at h
      simp only [Option.some.injEq, Prod.mk.injEq] at h
      obtain ⟨rfl, rfl⟩ := h
      have e : k = x.1 := by simpa using hk
      refine ⟨Nat.le_refl _, ?_, fun u => ?_, ?_⟩
      · rw [Nat.sub_self, e]; rfl
      · unfold kvPut; rw [if_pos hk, Nat.sub_self]; rfl
      · unfold kvDel; rw [if_pos hk, Nat.sub_self]; rfl
    · rw [if_neg hk] at h
      obtain ⟨h1, h2, h3, h4⟩ := ih _ _ _ h
      have e : j - i = (j - (i + 1)) + 1 := by omega
      refine ⟨by omega, ?_, fun u => ?_, ?_⟩
      · rw [e]; simpa using h2
      · unfold kvPut; rw [if_neg hk, e, h3 u]; rfl
      · unfold kvDel; rw [if_neg hk, e, h4]; rfl
theorem kvPut_new (l : KV) (k : Int) (v : Value) (h : kvGet l k = none) : kvPut l k v = l ++ [(k, v)] := by
  induction l with
  | nil => rfl
  | cons x r ih =>
    unfold kvGet at h
    by_cases hk : (k == x.1) = true
    · rw [if_pos hk] at h; cases h
    · rw [if_neg hk] at h
      unfold kvPut
      rw [if_neg hk, ih h]; rfl
theorem kvDel_none (l : KV) (k : Int) (h : kvGet l k = none) : kvDel l k = l := by
  induction l with
  | nil => rfl
  | cons x r ih =>
    unfold kvGet at h
    by_cases hk : (k == x.1) = true
    · rw [if_pos hk] at h; cases h
    · rw [if_neg hk] at h
      unfold kvDel
      rw [if_neg hk, ih h]
theorem kvGet_mem (l : KV) (k : Int) : kvGet l k = none ↔ k ∉ kvKeys l := by
  induction l with
  | nil => simp [kvGet, kvKeys]
  | cons x r ih =>
    unfold kvGet
    by_cases hk : (k == x.1) = true
    · rw [if_pos hk]
      have e : k = x.1 := by simpa using hk
      simp [kvKeys, e]
    · rw [if_neg hk, ih]
      have e : ¬ k = x.1 := by simpa using hk
      simp [kvKeys, e]
theorem kvGet_put (l : KV) (k k' : Int) (v : Value) : kvGet (kvPut l k v) k' = if k' = k then some v else kvGet l k' := by
  induction l with
  | nil => by_cases h : k' = k <;> simp [kvPut, kvGet, h]
  | cons x r ih =>
    unfold kvPut
    by_cases hk : (k == x.1) = true
    · have e : k = x.1 := by simpa using hk
      rw [if_pos hk]
      by_cases h : k' = k
      · simp [kvGet, h]
      · have h2 : ¬ k' = x.1 := by rw [← e]; exact h
        simp [kvGet, h, h2]
    · rw [if_neg hk]
      unfold kvGet
      rw [ih]
      have e : ¬ k = x.1 := by simpa using hk
      by_cases h : (k' == x.1) = true
      · have h2 : k' = x.1 := by simpa using h
        have h3 : ¬ k' = k := by rw [h2]; exact fun e' => e e'.symm
        rw [if_pos h, if_pos h, if_neg h3]
      · rw [if_neg h, if_neg h]
theorem kvKeys_put (l : KV) (k : Int) (v : Value) : kvKeys (kvPut l k v) = if kvGet l k = none then kvKeys l ++ [k] else kvKeys l := by
  induction l with
  | nil => simp [kvPut, kvGet, kvKeys]
  | cons x r ih =>
    unfold kvPut kvGet
    by_cases hk : (k == x.1) = true
    · have e : k = x.1 := by simpa using hk
      rw [if_pos hk, if_pos hk]
      simp [kvKeys, e]
    · rw [if_neg hk, if_neg hk]
      show x.1 :: kvKeys (kvPut r k v) = _
      rw [ih]
      split <;> simp [kvKeys]
theorem kvPut_nodup (l : KV) (k : Int) (v : Value) (h : (kvKeys l).Nodup) : (kvKeys (kvPut l k v)).Nodup := by
  rw [kvKeys_put]
  split
  · rename_i hn
    rw [kvGet_mem] at hn
    rw [List.nodup_append]
    refine ⟨h, by simp, fun a ha b hb e => hn ?_⟩
    rw [List.mem_singleton.1 hb] at e
    rw [← e]; exact ha
  · exact h
theorem kvKeys_del (l : KV) (k : Int) : (kvKeys (kvDel l k)).Sublist (kvKeys l) := by
  induction l with
  | nil => exact List.Sublist.refl _
  | cons x r ih =>
    unfold kvDel
    split
    · exact List.sublist_cons_self _ _
    · exact List.Sublist.cons_cons _ ih
theorem kvDel_nodup (l : KV) (k : Int) (h : (kvKeys l).Nodup) : (kvKeys (kvDel l k)).Nodup := List.Nodup.sublist (kvKeys_del l k) h
theorem kvGet_del (l : KV) (k k' : Int) (h : (kvKeys l).Nodup) : kvGet (kvDel l k) k' = if k' = k then none else kvGet l k' := by
  induction l with
  | nil => simp [kvDel, kvGet]
  | cons x r ih =>
    have hn : x.1 ∉ kvKeys r ∧ (kvKeys r).Nodup := by simpa [kvKeys] using h
    unfold kvDel
    by_cases hk : (k == x.1) = true
    · have e : k = x.1 := by simpa using hk
      rw [if_pos hk]
      by_cases h2 : k' = k
      · rw [if_pos h2, kvGet_mem, h2, e]; exact hn.1
      · have h3 : ¬ k' = x.1 := by rw [← e]; exact h2
        simp [kvGet, h2, h3]
    · rw [if_neg hk]
      unfold kvGet
      rw [ih hn.2]
      have e : ¬ k = x.1 := by simpa using hk
      by_cases h2 : (k' == x.1) = true
      · have h3 : k' = x.1 := by simpa using h2
        have h4 : ¬ k' = k := by rw [h3]; exact fun e' => e e'.symm
        rw [if_pos h2, if_pos h2, if_neg h4]
      · rw [if_neg h2, if_neg h2]
theorem kvDel_length (l : KV) (k : Int) : (kvDel l k).length = if kvGet l k = none then l.length else l.length - 1 := by
  induction l with
  | nil => rfl
  | cons x r ih =>
    unfold kvDel kvGet
    by_cases hk : (k == x.1) = true
    · rw [if_pos hk, if_pos hk]; simp
    · rw [if_neg hk, if_neg hk, List.length_cons, ih]
      split
      · rfl
      · rename_i hn
        have : 0 < r.length := by
          cases r with
          | nil => exact absurd rfl hn
          | cons y s => simp
        simp; omega
theorem kvPut_length (l : KV) (k : Int) (v : Value) : (kvPut l k v).length = if kvGet l k = none then l.length + 1 else l.length := by
  have := congrArg List.length (kvKeys_put l k v)
  simp only [kvKeys, List.length_map] at this
  rw [this]
  split <;> simp

/-! ### A map in memory -/
def Ent (es : List MapEntry) (l : KV) : Prop := es.map (fun e => (e.key, e.val)) = l.map fun x => (Value.int .i64 x.1, x.2)
/-- A map at block r, that reads as l. -/
def MapAt (w : World) (r : Nat) (l : KV) : Prop := ∃ es c, w.heap[r]? = some (.map es c) ∧ Ent es.toList l ∧ (es.toList.map (·.born)).Nodup ∧ (∀ e ∈ es.toList, e.born < c) ∧ (kvKeys l).Nodup

theorem Ent.length {es : List MapEntry} {l : KV} (h : Ent es l) : es.length = l.length := by
  have := congrArg List.length h
  simpa using this
theorem find_ent (k : Int) : ∀ (es : List MapEntry) (l : KV) (i : Nat), Ent es l → Instr.findNow (.int .i64) (.int .i64 k) es i = some (kvFind l k i)
  | [], [], _, _ => rfl
  | [], _ :: _, _, h => by simp [Ent] at h
  | _ :: _, [], _, h => by simp [Ent] at h
  | e :: es, x :: l, i, h => by
    simp only [Ent, List.map_cons, List.cons.injEq, Prod.mk.injEq] at h
    obtain ⟨⟨h1, h2⟩, h3⟩ := h
    simp only [Instr.findNow, h1, Instr.sameNow, if_true, kvFind]
    by_cases hk : (k == x.1) = true
    · simp [hk, h2]
    · have hk' : (k == x.1) = false := by simpa using hk
      simp only [hk']
      exact find_ent k es l (i + 1) h3

section
variable {P : Program} {w : World} {r : Nat} {l : KV} {t kt et : TypeId}

theorem run_find (hk : P.underlying kt = some (.int .i64)) (k : Int) {es : List MapEntry} (h : Ent es l) (w : World) : (Instr.findKey kt (.int .i64 k) es).run P w = .ok (kvFind l k 0) w := by
  simp [Instr.findKey, run_underlying hk, find_ent k es l 0 h]
theorem run_check' (n : Nat) (hk : P.underlying kt = some (.int .i64)) (b : Bool) (k : Int) (w : World) : (Instr.checkKey b (n + 1) kt (.int .i64 k)).run P w = .ok () w := by
  unfold Instr.checkKey
  simp [run_underlying hk]
theorem run_check (hk : P.underlying kt = some (.int .i64)) (b : Bool) (k : Int) (w : World) : (Instr.checkKey b 10000 kt (.int .i64 k)).run P w = .ok () w := run_check' 9999 hk b k w

theorem run_look (H : MapAt w r l) (ht : P.underlying t = some (.map kt et)) (hk : P.underlying kt = some (.int .i64)) (z : Value) (hz : (zeroValue et).run P w = .ok z w) (k : Int) (ok : Bool) :
    (Instr.lookup t (.map (some r)) (.int .i64 k) ok).run P w = .ok (if ok then .tuple #[(kvGet l k).getD z, .bool (kvGet l k).isSome] else (kvGet l k).getD z) w := by
  obtain ⟨es, c, hb, he, _, _, _⟩ := H
  have hf := run_find (P := P) hk k he w
  have hg := kvFind_get l k 0
  cases hfk : kvFind l k 0 with
  | none =>
    rw [hfk] at hf hg
    simp only [Option.map_none] at hg
    simp [Instr.lookup, run_underlying ht, MapKept.run_getObj_map hb, run_check hk, hf, hz, ← hg, Result.andThen]
  | some x =>
    obtain ⟨j, v⟩ := x
    rw [hfk] at hf hg
    simp only [Option.map_some] at hg
    simp [Instr.lookup, run_underlying ht, MapKept.run_getObj_map hb, run_check hk, hf, ← hg, Result.andThen]

theorem run_put (H : MapAt w r l) (ht : P.underlying t = some (.map kt et)) (hk : P.underlying kt = some (.int .i64)) (k : Int) (v : Value) :
    ∃ w', (Instr.mapUpdate t (.map (some r)) (.int .i64 k) v).run P w = .ok () w' ∧ MapAt w' r (kvPut l k v) ∧ w.grownBy w' (some r) := by
  obtain ⟨es, c, hb, he, hnd, hbc, hkn⟩ := H
  have hr := lt_of_block hb
  have hf := run_find (P := P) hk k he w
  have gr : ∀ o, w.grownBy (setBlock w r o) (some r) := fun o => ⟨rfl, rfl, rfl, by simp [setBlock], fun i _ hi => by
    show (w.heap.setIfInBounds r o)[i]? = _
    rw [Array.getElem?_setIfInBounds, if_neg (fun e => hi (by rw [e]))]⟩
  have gs : ∀ o, (setBlock w r o).heap[r]? = some o := fun o => by
    show (w.heap.setIfInBounds r o)[r]? = _
    rw [Array.getElem?_setIfInBounds, if_pos rfl, if_pos hr]
  cases hfk : kvFind l k 0 with
  | none =>
    rw [hfk] at hf
    have hg := (kvFind_none l k 0).1 hfk
    refine ⟨setBlock w r (.map (es.push ⟨.int .i64 k, v, c⟩) (c + 1)), ?_, ⟨_, _, gs _, ?_, ?_, ?_, kvPut_nodup l k v hkn⟩, gr _⟩
    · simp [Instr.mapUpdate, run_underlying ht, MapKept.run_getObj_map hb, run_check hk, hf, MapKept.run_setObj_map _ hb, Result.andThen, setBlock]
    · rw [kvPut_new l k v hg]
      unfold Ent at he ⊢
      simp [he]
    · rw [Array.toList_push, List.map_append, List.nodup_append]
      refine ⟨hnd, by simp, fun a ha b hb' e => ?_⟩
      obtain ⟨x, hx, rfl⟩ := List.mem_map.1 ha
      have := hbc x hx
      simp at hb'
      omega
    · intro e he'
      rw [Array.toList_push] at he'
      rcases List.mem_append.1 he' with he' | he'
      · have := hbc e he'; omega
      · rw [List.mem_singleton.1 he']; simp
  | some x =>
    obtain ⟨j, v0⟩ := x
    rw [hfk] at hf
    obtain ⟨_, h2, h3, _⟩ := kvFind_some l k 0 j v0 hfk
    rw [Nat.sub_zero] at h2 h3
    have hjl : j < l.length := (List.getElem?_eq_some_iff.1 h2).1
    have hjs : j < es.size := by rw [← Array.length_toList, he.length]; exact hjl
    have hkey : (es[j]).key = .int .i64 k := by
      have h4 := congrArg (fun q => q[j]?) he
      simp only [List.getElem?_map, h2, Option.map_some] at h4
      rw [Array.getElem?_toList, Array.getElem?_eq_getElem hjs] at h4
      simp at h4
      exact h4.1
    refine ⟨setBlock w r (.map (es.modify j fun e => { e with key := .int .i64 k, val := v }) c), ?_, ⟨_, _, gs _, ?_, ?_, ?_, kvPut_nodup l k v hkn⟩, gr _⟩
    · have hst : (Instr.keyThatStays (es[j]).key (.int .i64 k)).run P w = .ok (.int .i64 k) w := by
        rw [hkey]; simp [Instr.keyThatStays, Instr.sameBits]
      simp [Instr.mapUpdate, run_underlying ht, MapKept.run_getObj_map hb, run_check hk, hf, Array.getElem?_eq_getElem hjs, hst, MapKept.run_setObj_map _ hb, Result.andThen, setBlock]
    · rw [h3 v]
      unfold Ent at he ⊢
      rw [Array.toList_modify, List.map_set, ← he]
      refine List.ext_getElem (by simp) fun i h1 h2 => ?_
      simp only [List.getElem_map, List.getElem_modify, List.getElem_set]
      split <;> rfl
    · have : (es.modify j fun e => { e with key := .int .i64 k, val := v }).toList.map (·.born) = es.toList.map (·.born) := by
        rw [Array.toList_modify]
        refine List.ext_getElem (by simp) fun i h1 h2 => ?_
        simp only [List.getElem_map, List.getElem_modify]
        split <;> rfl
      rw [this]; exact hnd
    · intro e he'
      have h5 : e.born ∈ (es.modify j fun e => { e with key := .int .i64 k, val := v }).toList.map (·.born) := List.mem_map.2 ⟨e, he', rfl⟩
      have : (es.modify j fun e => { e with key := .int .i64 k, val := v }).toList.map (·.born) = es.toList.map (·.born) := by
        rw [Array.toList_modify]
        refine List.ext_getElem (by simp) fun i h1 h2 => ?_
        simp only [List.getElem_map, List.getElem_modify]
        split <;> rfl
      rw [this] at h5
      obtain ⟨e2, h6, h7⟩ := List.mem_map.1 h5
      rw [← h7]; exact hbc e2 h6
theorem run_look_plain (H : MapAt w r l) (ht : P.underlying t = some (.map kt et)) (hk : P.underlying kt = some (.int .i64)) (z : Value) (hz : (zeroValue et).run P w = .ok z w) (k : Int) :
    (Instr.lookup t (.map (some r)) (.int .i64 k) false).run P w = .ok ((kvGet l k).getD z) w := run_look H ht hk z hz k false
theorem run_look_ok (H : MapAt w r l) (ht : P.underlying t = some (.map kt et)) (hk : P.underlying kt = some (.int .i64)) (z : Value) (hz : (zeroValue et).run P w = .ok z w) (k : Int) :
    (Instr.lookup t (.map (some r)) (.int .i64 k) true).run P w = .ok (.tuple #[(kvGet l k).getD z, .bool (kvGet l k).isSome]) w := run_look H ht hk z hz k true

theorem setBlock_grown (o : Obj) : w.grownBy (setBlock w r o) (some r) := ⟨rfl, rfl, rfl, by simp [setBlock], fun i _ hi => by
  show (w.heap.setIfInBounds r o)[i]? = _
  rw [Array.getElem?_setIfInBounds, if_neg (fun e => hi (by rw [e]))]⟩
theorem setBlock_at (o : Obj) (hr : r < w.heap.size) : (setBlock w r o).heap[r]? = some o := by
  show (w.heap.setIfInBounds r o)[r]? = _
  rw [Array.getElem?_setIfInBounds, if_pos rfl, if_pos hr]

theorem run_del (H : MapAt w r l) (ht : P.underlying t = some (.map kt et)) (hk : P.underlying kt = some (.int .i64)) (k : Int) (ty : TypeId) :
    ∃ w', (Builtin.delete_ #[t, kt] ty #[.map (some r), .int .i64 k]).run P w = .ok (.tuple #[]) w' ∧ MapAt w' r (kvDel l k) ∧ w.grownBy w' (some r) := by
  obtain ⟨es, c, hb, he, hnd, hbc, hkn⟩ := H
  have hr := lt_of_block hb
  have hf := run_find (P := P) hk k he w
  cases hfk : kvFind l k 0 with
  | none =>
    rw [hfk] at hf
    have hg := (kvFind_none l k 0).1 hfk
    refine ⟨setBlock w r (.map es c), ?_, ⟨_, _, setBlock_at _ hr, ?_, hnd, hbc, kvDel_nodup l k hkn⟩, setBlock_grown _⟩
    · simp [Builtin.delete_, run_underlying ht, MapKept.run_getObj_map hb, run_check hk, hf, MapKept.run_setObj_map _ hb, Result.andThen, setBlock]
    · rw [kvDel_none l k hg]; exact he
  | some x =>
    obtain ⟨j, v0⟩ := x
    rw [hfk] at hf
    obtain ⟨_, h2, _, h4⟩ := kvFind_some l k 0 j v0 hfk
    rw [Nat.sub_zero] at h2 h4
    have hjl : j < l.length := (List.getElem?_eq_some_iff.1 h2).1
    have hjs : j < es.size := by rw [← Array.length_toList, he.length]; exact hjl
    have hsub : (es.eraseIdxIfInBounds j).toList = es.toList.eraseIdx j := by
      unfold Array.eraseIdxIfInBounds
      rw [dif_pos hjs]
      simp
    refine ⟨setBlock w r (.map (es.eraseIdxIfInBounds j) c), ?_, ⟨_, _, setBlock_at _ hr, ?_, ?_, ?_, kvDel_nodup l k hkn⟩, setBlock_grown _⟩
    · simp [Builtin.delete_, run_underlying ht, MapKept.run_getObj_map hb, run_check hk, hf, MapKept.run_setObj_map _ hb, Result.andThen, setBlock]
    · rw [hsub, h4]
      unfold Ent at he ⊢
      rw [Go.ChangeMaps.map_eraseIdx, he, Go.ChangeMaps.map_eraseIdx]
    · rw [hsub]
      exact List.Nodup.sublist ((List.eraseIdx_sublist _ _).map _) hnd
    · intro e he'
      rw [hsub] at he'
      exact hbc e (List.mem_of_mem_eraseIdx he')

theorem run_mlen (H : MapAt w r l) (ht : P.underlying t = some (.map kt et)) (ty : TypeId) : (Builtin.len_ #[t] ty #[.map (some r)]).run P w = .ok (.int .i64 l.length) w := by
  obtain ⟨es, c, hb, he, _, _, _⟩ := H
  have hl := he.length
  rw [Array.length_toList] at hl
  simp [Builtin.len_, run_underlying ht, MapKept.run_getObj_map hb, goInt, Result.andThen, hl]

theorem MapAt.kept {w' : World} {row : Option Nat} (H : MapAt w r l) (hg : w.grownBy w' row) (hne : some r ≠ row) : MapAt w' r l := by
  obtain ⟨es, c, hb, rest⟩ := H
  exact ⟨es, c, (hg.block r (lt_of_block hb) hne).trans hb, rest⟩
theorem MapAt.below {w' : World} (H : MapAt w r l) (hb : Below w.heap.size w w') : MapAt w' r l := by
  obtain ⟨es, c, hb', rest⟩ := H
  exact ⟨es, c, below_block hb (lt_of_block hb') hb', rest⟩
theorem MapAt.only {Ts : List TypeId} {B : Nat} {w' : World} (H : MapAt w r l) (ho : Only Ts B w w') : MapAt w' r l := by
  obtain ⟨es, c, hb, rest⟩ := H
  exact ⟨es, c, ho.atMap hb, rest⟩
theorem MapAt.lt (H : MapAt w r l) : r < w.heap.size := by
  obtain ⟨es, c, hb, rest⟩ := H
  exact lt_of_block hb
theorem map_new (w : World) : MapAt (w.alloc (.map #[] 0)) w.heap.size [] := ⟨#[], 0, heap_alloc_new w _, rfl, by simp, by simp, by simp [kvKeys]⟩
/-- A map is written: blocks of cells stand as they did. -/
theorem grown_cells {w' : World} (hg : w.grownBy w' (some r)) (H : MapAt w r l) {B : Nat} (hB : B ≤ r) : Below B w w' :=
  ⟨hg.os, hg.tape, hg.output, hg.size, fun k hk => hg.block k (by have := H.lt; omega) (fun e => by
    have e2 : k = r := by simpa using e
    omega)⟩
theorem ownsRow_map {w' : World} (hg : w.grownBy w' (some r)) (H : MapAt w r l) {base : Nat} {e : TypeId} {size : Nat} {v : Value} {n : Nat} {xs : List Value} (ho : w.ownsRow base e size v n xs) : w'.ownsRow base e size v n xs := by
  refine ho.kept hg ?_
  right
  intro hk
  obtain ⟨_, cs, fr, hb⟩ := ownsRow_hasT ho r hk
  obtain ⟨es, c, hb', _⟩ := H
  rw [hb] at hb'
  cases hb'
theorem block_map {w' : World} (hg : w.grownBy w' (some r)) (H : MapAt w r l) {k : Nat} {cs : Array Value} {T : TypeId} {fr : Nat × Nat} (hb : w.heap[k]? = some (.cells cs T fr)) : w'.heap[k]? = some (.cells cs T fr) := by
  refine (hg.block k (lt_of_block hb) ?_).trans hb
  intro e
  have e : k = r := by simpa using e
  subst e
  obtain ⟨es, c, hb', _⟩ := H
  rw [hb] at hb'
  cases hb'

/-- m[k] = v, at the operation. -/
theorem wpList_put {ops : Array Oper} {rest : List Oper} {o : Oper} {a : Act} {Q : Exit → Act → World → Prop} (hgd : o.guard = none) (m x v : Operand) (t : TypeId) (hop : o.op = .mapUpdate t m x v)
    (H : MapAt w r l) (ht : P.underlying t = some (.map kt et)) (hk : P.underlying kt = some (.int .i64)) (k : Int) (y : Value) (hm : a.eval m = .map (some r)) (hx : a.eval x = .int .i64 k) (hv : a.eval v = y)
    (hK : ∀ w', MapAt w' r (kvPut l k y) → w.grownBy w' (some r) → wpList P ops Q rest (a.put o.dst undef) w') : wpList P ops Q (o :: rest) a w := by
  refine wpList_plain hgd fun K' hK' => ?_
  obtain ⟨w', hrun, r1, r2⟩ := run_put (P := P) H ht hk k y
  unfold Oper.wp
  simp [execOp, hop, hm, hx, hv, hrun, Result.andThen]
  exact hK' _ _ (hK w' r1 r2)
theorem wpList_del {ops : Array Oper} {rest : List Oper} {o : Oper} {a : Act} {Q : Exit → Act → World → Prop} (hgd : o.guard = none) (m x : Operand) (t : TypeId) (hop : o.op = .call { callee := .builtin .delete, args := #[m, x], argTypes := #[t, kt] })
    (H : MapAt w r l) (ht : P.underlying t = some (.map kt et)) (hk : P.underlying kt = some (.int .i64)) (k : Int) (hm : a.eval m = .map (some r)) (hx : a.eval x = .int .i64 k)
    (hK : ∀ w', MapAt w' r (kvDel l k) → w.grownBy w' (some r) → wpList P ops Q rest (a.put o.dst (.tuple #[])) w') : wpList P ops Q (o :: rest) a w := by
  refine wpList_plain hgd fun K' hK' => ?_
  obtain ⟨w', hrun, r1, r2⟩ := run_del (P := P) H ht hk k o.type
  unfold Oper.wp execOp
  simp only [hop, resolve, invoke, builtin, Sem.run_bind, Sem.run_pure, Result.andThen_ok, List.map_toArray, List.map_cons, List.map_nil, hm, hx, hrun]
  exact hK' _ _ (hK w' r1 r2)
end

end Go.Proofs.YtlehgmfpblifkaaDoor
