/- A map from entries to bools: written, and gone through. -/
import Derived.Test.YtaoamkkgiiiejaaTreeLs
import Derived.Maps.RangeRun
import Derived.Maps.RangeWalk
import Derived.DeepKeys4
import Derived.MapKept
import Derived.Maps.Keyed
namespace Go.Proofs.Ytaoamkkgiiiejaa
open Go.RowKit
open Go.ChangeMaps (setBlock)
set_option linter.unusedVariables false

theorem lawE : WideMaps.KeyLaw Try.prog 36 := deep_law_laid (by kernel_rfl) (m := 3) (by omega) (of_decide_eq_true (by kernel_rfl)) (by kernel_rfl) (by kernel_rfl)
def kE (e : E) : Value := .agg #[.string e.key, .int .i64 e.id]
theorem kE_inj {a b : E} (h : kE a = kE b) : a = b := by
  obtain ⟨ak, ai⟩ := a
  obtain ⟨bk, bi⟩ := b
  simp [kE] at h
  obtain ⟨rfl, rfl⟩ := h
  rfl
def GoodE (e : E) : Prop := (keyOf Try.prog 36 (kE e)).isSome = true
theorem GoodE.lit {e : E} (h : GoodE e) : ∃ l, keyOf Try.prog 36 (kE e) = some l := Option.isSome_iff_exists.1 h
theorem good_all : ((List.range 6).all fun k => (List.range 24).all fun i => (keyOf Try.prog 36 (.agg #[.string ⟨#[(97 + k).toUInt8]⟩, .int .i64 ((i : Int) - 3)])).isSome) = true := by kernel_rfl
theorem good_ent (x : A8) (h : x.ok) : GoodE x.ent := by
  have h1 : 0 ≤ x.key % 6 := Int.emod_nonneg _ (by omega)
  have h2 : x.key % 6 < 6 := Int.emod_lt_of_pos _ (by omega)
  have h3 : 0 ≤ x.id % 24 := Int.emod_nonneg _ (by omega)
  have h4 : x.id % 24 < 24 := Int.emod_lt_of_pos _ (by omega)
  obtain ⟨k, hk⟩ : ∃ k : Nat, x.key % 6 = (k : Int) := ⟨(x.key % 6).toNat, by omega⟩
  obtain ⟨i, hi⟩ : ∃ i : Nat, x.id % 24 = (i : Int) := ⟨(x.id % 24).toNat, by omega⟩
  have hall := good_all
  rw [List.all_eq_true] at hall
  have h5 := hall k (List.mem_range.2 (by omega))
  rw [List.all_eq_true] at h5
  have h6 := h5 i (List.mem_range.2 (by omega))
  unfold GoodE kE A8.ent
  rw [hk, hi]
  have e : ((97 : Int) + (k : Int)).toNat = 97 + k := by omega
  simp only [e]
  exact h6

/-! ### Lists of entries and bools -/
abbrev KE := List (E × Bool)
def keGet : KE → E → Option Bool
  | [], _ => none
  | x :: r, e => if e = x.1 then some x.2 else keGet r e
def kePut : KE → E → Bool → KE
  | [], e, b => [(e, b)]
  | x :: r, e, b => if e = x.1 then (e, b) :: r else x :: kePut r e b
def keKeys (l : KE) : List E := l.map (·.1)
theorem keGet_put (l : KE) (e f : E) (b : Bool) : keGet (kePut l e b) f = if f = e then some b else keGet l f := by
  induction l with
  | nil => rfl
  | cons x r ih =>
    unfold kePut
    by_cases h : e = x.1
    · rw [if_pos h]
      show (if f = e then some b else keGet r f) = if f = e then some b else (if f = x.1 then some x.2 else keGet r f)
      by_cases h2 : f = e
      · rw [if_pos h2, if_pos h2]
      · rw [if_neg h2, if_neg h2, if_neg (fun h3 => h2 (h3.trans h.symm))]
    · rw [if_neg h]
      show (if f = x.1 then some x.2 else keGet (kePut r e b) f) = if f = e then some b else (if f = x.1 then some x.2 else keGet r f)
      rw [ih]
      by_cases h2 : f = x.1
      · rw [if_pos h2, if_pos h2, if_neg (fun h3 => h (h3.symm.trans h2))]
      · rw [if_neg h2, if_neg h2]
theorem kePut_new : ∀ (l : KE) (e : E) (b : Bool), e ∉ keKeys l → kePut l e b = l ++ [(e, b)]
  | [], _, _, _ => rfl
  | x :: r, e, b, h => by
    have h1 : ¬ e = x.1 := fun h9 => h (by rw [h9]; exact List.mem_cons_self ..)
    have h2 : e ∉ keKeys r := fun h9 => h (List.mem_cons_of_mem _ h9)
    show (if e = x.1 then (e, b) :: r else x :: kePut r e b) = _
    rw [if_neg h1, kePut_new r e b h2]; rfl
theorem kePut_at : ∀ (l : KE) (e : E) (b c : Bool) (j : Nat), (keKeys l).Nodup → l[j]? = some (e, c) → kePut l e b = l.set j (e, b)
  | [], _, _, _, _, _, h => by simp at h
  | x :: r, e, b, c, j, hn, h => by
    have hn' := List.nodup_cons.1 hn
    show (if e = x.1 then (e, b) :: r else x :: kePut r e b) = _
    rcases j with _ | j
    · have h1 : x = (e, c) := by simpa using h
      rw [if_pos (by rw [h1])]; rfl
    · have h1 : r[j]? = some (e, c) := by simpa using h
      have h2 : ¬ e = x.1 := fun h9 => hn'.1 (List.mem_map.2 ⟨(e, c), List.mem_of_getElem? h1, h9⟩)
      rw [if_neg h2, kePut_at r e b c j hn'.2 h1]; rfl
theorem keGet_mem : ∀ {l : KE} {e : E} {b : Bool}, (keKeys l).Nodup → (e, b) ∈ l → keGet l e = some b
  | x :: r, e, b, hn, h => by
    have hn' := List.nodup_cons.1 hn
    show (if e = x.1 then some x.2 else keGet r e) = some b
    rcases List.mem_cons.1 h with rfl | h
    · rw [if_pos rfl]
    · rw [if_neg (fun h9 => hn'.1 (List.mem_map.2 ⟨(e, b), h, h9⟩))]
      exact keGet_mem hn'.2 h
theorem keGet_key : ∀ {l : KE} {e : E} {b : Bool}, keGet l e = some b → (e, b) ∈ l
  | x :: r, e, b, h => by
    have h' : (if e = x.1 then some x.2 else keGet r e) = some b := h
    by_cases h1 : e = x.1
    · rw [if_pos h1] at h'
      injection h' with h'
      subst h1 h'
      exact List.mem_cons_self ..
    · rw [if_neg h1] at h'
      exact List.mem_cons_of_mem _ (keGet_key h')
theorem keKeys_put (l : KE) (e : E) (b : Bool) (h : (keKeys l).Nodup) : (keKeys (kePut l e b)).Nodup := by
  by_cases hm : e ∈ keKeys l
  · obtain ⟨x, hx, hxe⟩ := List.mem_map.1 hm
    obtain ⟨j, hj⟩ := List.mem_iff_getElem?.1 hx
    obtain ⟨x1, x2⟩ := x
    simp only at hxe
    subst hxe
    rw [kePut_at l x1 b x2 j h hj]
    have e9 : keKeys (l.set j (x1, b)) = keKeys l := by
      unfold keKeys
      rw [List.map_set]
      apply List.ext_getElem?
      intro i
      rw [List.getElem?_set]
      split
      · rename_i hij
        subst hij
        split
        · rw [List.getElem?_map, hj]; rfl
        · rename_i hl
          rw [List.getElem?_eq_none (by omega)]
      · rfl
    rw [e9]; exact h
  · rw [kePut_new l e b hm]
    unfold keKeys
    rw [List.map_append, List.nodup_append]
    refine ⟨h, by simp, fun a ha b' hb he => hm ?_⟩
    simp at hb
    rw [hb] at he
    rw [← he]; exact ha

/-! ### The map in memory -/
def EntE (es : List MapEntry) (l : KE) : Prop := es.map (fun e => (e.key, e.val)) = l.map fun x => (kE x.1, Value.bool x.2)
def MapE (w : World) (r : Nat) (l : KE) : Prop := ∃ es c, w.heap[r]? = some (.map es c) ∧ EntE es.toList l ∧ (es.toList.map (·.born)).Nodup ∧ (∀ e ∈ es.toList, e.born < c) ∧ (keKeys l).Nodup ∧ ∀ x ∈ l, GoodE x.1
theorem mapE_new (w : World) : MapE (w.alloc (.map #[] 0)) w.heap.size [] := ⟨#[], 0, heap_alloc_new w _, rfl, by simp, by simp, by simp [keKeys], by simp⟩
theorem MapE.lt {w : World} {r : Nat} {l : KE} (H : MapE w r l) : r < w.heap.size := by obtain ⟨es, c, hb, _⟩ := H; exact lt_of_block hb
theorem MapE.below {w w' : World} {r : Nat} {l : KE} (H : MapE w r l) (hb : Below w.heap.size w w') : MapE w' r l := by
  obtain ⟨es, c, h, rest⟩ := H
  exact ⟨es, c, below_block hb (lt_of_block h) h, rest⟩
theorem MapE.mv {F F' : Nat → Prop} {w w' : World} {r : Nat} {l : KE} (M : MapE w r l) (h : Mv F F' w w') (hF : ¬ F r) : MapE w' r l := by
  obtain ⟨es, c, hm, rest⟩ := M
  exact ⟨es, c, h.at_ hm hF, rest⟩
theorem EntE.mem {es : List MapEntry} {l : KE} (h : EntE es l) {e : MapEntry} (he : e ∈ es) : ∃ x ∈ l, e.key = kE x.1 ∧ e.val = .bool x.2 := by
  have h1 : (e.key, e.val) ∈ es.map (fun e => (e.key, e.val)) := List.mem_map.2 ⟨e, he, rfl⟩
  rw [h] at h1
  obtain ⟨x, h2, h3⟩ := List.mem_map.1 h1
  injection h3 with h4 h5
  exact ⟨x, h2, h4.symm, h5.symm⟩
theorem EntE.at_ {es : List MapEntry} {l : KE} (h : EntE es l) {j : Nat} {e : MapEntry} (he : es[j]? = some e) : ∃ x, l[j]? = some x ∧ e.key = kE x.1 ∧ e.val = .bool x.2 := by
  have h1 := congrArg (fun t => t[j]?) h
  simp only [List.getElem?_map, he, Option.map_some] at h1
  cases hx : l[j]? with
  | none => rw [hx] at h1; cases h1
  | some x =>
    rw [hx] at h1
    simp only [Option.map_some, Option.some.injEq, Prod.mk.injEq] at h1
    exact ⟨x, rfl, h1.1, h1.2⟩
theorem run_putE {w : World} {r : Nat} {l : KE} (H : MapE w r l) (e : E) (he : GoodE e) (b : Bool) :
    ∃ w', (Instr.mapUpdate 31 (.map (some r)) (.agg #[.string e.key, .int .i64 e.id]) (.bool b)).run Try.prog w = .ok () w' ∧ MapE w' r (kePut l e b) ∧ Mv (fun k => k = r) (fun k => k = r) w w' := by
  obtain ⟨es, c, hb, hent, hnd, hbc, hkn, hgd⟩ := H
  have hr := lt_of_block hb
  obtain ⟨le, hle⟩ := he.lit
  have hck := lawE.check w false hle
  have hgr : ∀ o, Mv (fun k => k = r) (fun k => k = r) w (setBlock w r o) := fun o => ⟨rfl, rfl, rfl, by simp [setBlock], fun i _ hi => by
    show (w.heap.setIfInBounds r o)[i]? = _
    rw [Array.getElem?_setIfInBounds, if_neg (fun e => hi e.symm)], fun _ h => .inl h⟩
  have gs : ∀ o, (setBlock w r o).heap[r]? = some o := fun o => by
    show (w.heap.setIfInBounds r o)[r]? = _
    rw [Array.getElem?_setIfInBounds, if_pos rfl, if_pos hr]
  have hgd' : ∀ l' : KE, (∀ x ∈ l', x ∈ l ∨ x = (e, b)) → ∀ x ∈ l', GoodE x.1 := fun l' h x hx => by
    rcases h x hx with h9 | rfl
    · exact hgd x h9
    · exact he
  rcases lawE.find w hle es.toList (fun y hy => by
      obtain ⟨x, hx, h1, _⟩ := hent.mem hy
      rw [h1]; exact (hgd x hx).lit) with ⟨hf, hne⟩ | ⟨j, y, hf, hj, hy⟩
  · have hm : e ∉ keKeys l := fun h9 => by
      obtain ⟨x, hx, rfl⟩ := List.mem_map.1 h9
      obtain ⟨i, hi⟩ := List.mem_iff_getElem?.1 hx
      have h1 := congrArg (fun t => t[i]?) hent
      simp only [List.getElem?_map, hi, Option.map_some] at h1
      cases hz : es.toList[i]? with
      | none => rw [hz] at h1; cases h1
      | some z =>
        rw [hz] at h1
        simp only [Option.map_some, Option.some.injEq, Prod.mk.injEq] at h1
        exact hne z (List.mem_of_getElem? hz) h1.1
    refine ⟨setBlock w r (.map (es.push ⟨kE e, .bool b, c⟩) (c + 1)), ?_, ⟨_, _, gs _, ?_, ?_, ?_, keKeys_put l e b hkn, ?_⟩, hgr _⟩
    · unfold kE at hck hf
      simp [Instr.mapUpdate, run_underlying Try.underlying31, MapKept.run_getObj_map hb, hck, hf, MapKept.run_setObj_map _ hb, Result.andThen, setBlock, kE]
    · rw [kePut_new l e b hm]
      unfold EntE at hent ⊢
      simp [hent]
    · rw [Array.toList_push, List.map_append, List.nodup_append]
      refine ⟨hnd, by simp, fun a ha b' hb' e' => ?_⟩
      obtain ⟨x, hx, rfl⟩ := List.mem_map.1 ha
      have := hbc x hx
      simp at hb'
      omega
    · intro x hx
      rw [Array.toList_push] at hx
      rcases List.mem_append.1 hx with h | h
      · have := hbc x h; omega
      · simp at h; subst h; exact Nat.lt_succ_self _
    · rw [kePut_new l e b hm]
      exact hgd' _ fun x hx => by
        rcases List.mem_append.1 hx with h | h
        · exact .inl h
        · exact .inr (by simpa using h)
  · obtain ⟨x, hx, hxk, hxv⟩ := hent.at_ hj
    have hxe : x.1 = e := kE_inj (hxk.symm.trans hy)
    obtain ⟨x1, x2⟩ := x
    simp only at hxe
    subst hxe
    have hst := lawE.stays w hle
    have hjs : j < es.size := by have := (List.getElem?_eq_some_iff.1 hj).1; simpa using this
    have hj' : es[j]? = some y := by rw [← Array.getElem?_toList]; exact hj
    refine ⟨setBlock w r (.map (es.modify j fun e => { e with key := kE x1, val := .bool b }) c), ?_, ⟨_, _, gs _, ?_, ?_, ?_, keKeys_put l x1 b hkn, ?_⟩, hgr _⟩
    · have hyk := hy
      unfold kE at hck hf hst hyk
      simp [Instr.mapUpdate, run_underlying Try.underlying31, MapKept.run_getObj_map hb, hck, hf, MapKept.run_setObj_map _ hb, Result.andThen, setBlock, kE, hj', hyk, hst]
    · rw [kePut_at l x1 b x2 j hkn hx]
      unfold EntE at hent ⊢
      rw [Array.toList_modify, Go.ChangeMaps.modify_eq_set _ _ _ _ hj, List.map_set, hent, List.map_set]
    · rw [Array.toList_modify, Go.ChangeMaps.modify_eq_set _ _ _ _ hj, List.map_set]
      have : (es.toList.map (·.born)).set j y.born = es.toList.map (·.born) := by
        apply List.ext_getElem?
        intro i
        rw [List.getElem?_set]
        split
        · rename_i hij
          subst hij
          split
          · rw [List.getElem?_map, hj]; rfl
          · rename_i hl
            rw [List.getElem?_eq_none (by omega)]
        · rfl
      rw [this]; exact hnd
    · intro z hz
      rw [Array.toList_modify, Go.ChangeMaps.modify_eq_set _ _ _ _ hj] at hz
      rcases List.mem_or_eq_of_mem_set hz with h | h
      · exact hbc z h
      · subst h; exact hbc y (List.mem_of_getElem? hj)
    · rw [kePut_at l x1 b x2 j hkn hx]
      exact hgd' _ fun x hx => by
        rcases List.mem_or_eq_of_mem_set hx with h | h
        · exact .inl h
        · exact .inr h

end Go.Proofs.Ytaoamkkgiiiejaa
