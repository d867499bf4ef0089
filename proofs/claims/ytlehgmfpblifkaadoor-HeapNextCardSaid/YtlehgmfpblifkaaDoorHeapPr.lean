/- A heap and a map of what it should hold: the plain law. -/
import Derived.Test.YtlehgmfpblifkaaDoorHeapFresh
import Derived.Test.YtlehgmfpblifkaaDoorHeapG
import Derived.Test.YtlehgmfpblifkaaDoorMapB
import Derived.Test.YtlehgmfpblifkaaDoorHeapRow
import Derived.Test.YtlehgmfpblifkaaDoorCmpB
namespace Go.Proofs.YtlehgmfpblifkaaDoor
open Go.RowKit
set_option linter.unusedVariables false

theorem nextD_some {ds : List Dc} (hs : Asc ds) {a : Int} (h : (nextD ds a).2 = true) : (nextD ds a).1 ∈ ds ∧ a < (nextD ds a).1.id ∧ ∀ x ∈ ds, a < x.id → (nextD ds a).1.id ≤ x.id := by
  obtain ⟨h1, h2⟩ := asc_pos hs a
  obtain ⟨k, hk⟩ : ∃ k, k = posD ds a + (if hasD ds a = true then 1 else 0) := ⟨_, rfl⟩
  have hn : nextD ds a = if k < ds.length then (gc ds k, true) else (zDc, false) := by unfold nextD; rw [← hk]
  rw [hn] at h ⊢
  by_cases hl : k < ds.length
  · rw [if_pos hl]
    have hgt : a < (gc ds k).id := by
      by_cases hh : hasD ds a = true
      · obtain ⟨e1, e2⟩ := has_at hs hh
        rw [if_pos hh] at hk
        have := asc_gc hs (show posD ds a < k by omega) hl
        omega
      · rw [if_neg hh] at hk
        have e1 := h2 k (by omega) hl
        rcases Int.lt_or_eq_of_le e1 with e2 | e2
        · exact e2
        · exfalso
          apply hh
          unfold hasD
          rw [List.any_eq_true]
          exact ⟨gc ds k, gc_mem ds k hl, decide_eq_true e2.symm⟩
    refine ⟨gc_mem ds k hl, hgt, fun x hx hax => ?_⟩
    obtain ⟨j, hj, rfl⟩ := List.getElem_of_mem hx
    rw [← gc_get ds j hj] at hax ⊢
    rcases Nat.lt_trichotomy j k with h4 | h4 | h4
    · exfalso
      rcases Nat.lt_or_ge j (posD ds a) with h5 | h5
      · have := h1 j h5; omega
      · by_cases hh : hasD ds a = true
        · rw [if_pos hh] at hk
          obtain rfl : j = posD ds a := by omega
          have := (has_at hs hh).2; omega
        · rw [if_neg hh] at hk; omega
    · subst h4; exact Int.le_refl _
    · exact Int.le_of_lt (asc_gc hs h4 hj)
  · rw [if_neg hl] at h; cases h
theorem nextD_none {ds : List Dc} (hs : Asc ds) {a : Int} (h : (nextD ds a).2 = false) : ∀ x ∈ ds, x.id ≤ a := by
  obtain ⟨h1, h2⟩ := asc_pos hs a
  intro x hx
  obtain ⟨j, hj, rfl⟩ := List.getElem_of_mem hx
  rw [← gc_get ds j hj]
  unfold nextD at h
  by_cases hh : hasD ds a = true
  · rw [if_pos hh] at h
    by_cases hl : posD ds a + 1 < ds.length
    · rw [if_pos hl] at h; cases h
    · obtain ⟨e1, e2⟩ := has_at hs hh
      rcases Nat.lt_or_ge j (posD ds a) with h5 | h5
      · have := h1 j h5; omega
      · obtain rfl : j = posD ds a := by omega
        omega
  · rw [if_neg hh] at h
    by_cases hl : posD ds a + 0 < ds.length
    · rw [if_pos hl] at h; cases h
    · have := h1 j (by omega); omega
theorem delD_mem {ds : List Dc} (hs : Asc ds) (id : Int) {x : Dc} (hx : x ∈ ds) (hne : x.id ≠ id) : x ∈ delD ds id := by
  unfold delD
  by_cases h : hasD ds id = true
  · rw [if_pos h]
    obtain ⟨hk, he⟩ := has_at hs h
    obtain ⟨j, hj, rfl⟩ := List.getElem_of_mem hx
    rcases Nat.lt_trichotomy j (posD ds id) with h4 | h4 | h4
    · refine List.mem_append.2 (.inl ?_)
      exact List.mem_take_iff_getElem.2 ⟨j, by omega, rfl⟩
    · subst h4
      rw [← gc_get ds _ hj] at hne
      exact absurd he hne
    · refine List.mem_append.2 (.inr ?_)
      refine List.mem_drop_iff_getElem.2 ⟨j - (posD ds id + 1), by omega, ?_⟩
      congr 1
      omega
  · rw [if_neg h]; exact hx
theorem has_iff {ds : List Dc} {id : Int} : hasD ds id = true ↔ ∃ x ∈ ds, x.id = id := by
  unfold hasD
  rw [List.any_eq_true]
  exact ⟨fun ⟨x, h, e⟩ => ⟨x, h, of_decide_eq_true e⟩, fun ⟨x, h, e⟩ => ⟨x, h, decide_eq_true e⟩⟩
theorem asc_one {ds : List Dc} (hs : Asc ds) {x y : Dc} (hx : x ∈ ds) (hy : y ∈ ds) (h : x.id = y.id) : x = y := by
  obtain ⟨i, hi, rfl⟩ := List.getElem_of_mem hx
  obtain ⟨j, hj, rfl⟩ := List.getElem_of_mem hy
  rw [← gc_get ds i hi, ← gc_get ds j hj] at h ⊢
  rcases Nat.lt_trichotomy i j with h4 | h4 | h4
  · have := asc_gc hs h4 hj; omega
  · rw [h4]
  · have := asc_gc hs h4 hi; omega
theorem look_mem {ds : List Dc} (hs : Asc ds) {x : Dc} (hx : x ∈ ds) : lookD ds x.id = (x.v, true) := by
  have hh : hasD ds x.id = true := has_iff.2 ⟨x, hx, rfl⟩
  obtain ⟨h1, h2⟩ := has_at hs hh
  unfold lookD
  rw [if_pos hh, asc_one hs (gc_mem ds _ h1) hx h2]
theorem look_none {ds : List Dc} {id : Int} (h : hasD ds id = false) : lookD ds id = (zR, false) := if_neg (by rw [h]; simp)
theorem delD_no {ds : List Dc} (hs : Asc ds) {id : Int} {x : Dc} (hx : x ∈ delD ds id) : x.id ≠ id := by
  unfold delD at hx
  by_cases h : hasD ds id = true
  · rw [if_pos h] at hx
    obtain ⟨hk, he⟩ := has_at hs h
    rcases List.mem_append.1 hx with h1 | h1
    · obtain ⟨j, hj, rfl⟩ := List.mem_take_iff_getElem.1 h1
      have := asc_gc hs (show j < posD ds id by omega) hk
      rw [gc_get ds j (by omega)] at this
      omega
    · obtain ⟨j, hj, rfl⟩ := List.mem_drop_iff_getElem.1 h1
      have := asc_gc hs (show posD ds id < posD ds id + 1 + j by omega) (by omega)
      rw [gc_get ds (posD ds id + 1 + j) (by omega)] at this
      omega
  · rw [if_neg h] at hx
    intro e
    exact h (has_iff.2 ⟨x, hx, e⟩)
theorem setD_mem {ds : List Dc} (hs : Asc ds) {id : Int} {v : Rv} {x : Dc} (hx : x ∈ setD ds id v) : (x.id = id ∧ x.v = v ∧ hasD ds id = true) ∨ (x ∈ ds ∧ x.id ≠ id) := by
  unfold setD at hx
  by_cases h : hasD ds id = true
  · rw [if_pos h] at hx
    obtain ⟨hk, he⟩ := has_at hs h
    obtain ⟨j, hj, rfl⟩ := List.getElem_of_mem hx
    rw [List.length_set] at hj
    by_cases hjk : posD ds id = j
    · subst hjk
      left
      rw [List.getElem_set_self]
      exact ⟨he, rfl, h⟩
    · right
      rw [List.getElem_set_ne hjk]
      refine ⟨List.getElem_mem _, fun e => hjk ?_⟩
      rw [← gc_get ds j hj] at e
      rcases Nat.lt_trichotomy j (posD ds id) with h4 | h4 | h4
      · have := asc_gc hs h4 hk; omega
      · exact h4.symm
      · have := asc_gc hs h4 hj; omega
  · rw [if_neg h] at hx
    exact .inr ⟨hx, fun e => h (has_iff.2 ⟨x, hx, e⟩)⟩
theorem setD_keys (ds : List Dc) (id : Int) (v : Rv) : (setD ds id v).map (·.id) = ds.map (·.id) := by
  unfold setD
  by_cases h : hasD ds id = true
  · rw [if_pos h]
    refine List.ext_getElem (by simp) fun i h1 h2 => ?_
    simp only [List.getElem_map, List.getElem_set]
    split
    · rename_i e
      subst e
      rw [gc_get ds _ (by simpa using h2)]
    · rfl
  · rw [if_neg h]
theorem has_keys {a b : List Dc} (h : a.map (·.id) = b.map (·.id)) (id : Int) : hasD a id = hasD b id := by
  have hh : ∀ l : List Dc, hasD l id = (l.map (·.id)).any fun i => decide (i = id) := fun l => by unfold hasD; rw [List.any_map]; rfl
  rw [hh, hh, h]
theorem asc_keys {a b : List Dc} (h : a.map (·.id) = b.map (·.id)) (hs : Asc b) : Asc a := by
  have hh : ∀ l : List Dc, Asc l ↔ (l.map (·.id)).Pairwise (· < ·) := fun l => by unfold Asc; rw [List.pairwise_map]
  rw [hh, h, ← hh]; exact hs
theorem Upto.set {ds : List Dc} {last : Int} (h : Upto ds last) (id : Int) (v : Rv) : Upto (setD ds id v) last := by
  refine ⟨asc_keys (setD_keys ds id v) h.1, fun d hd => ?_⟩
  rcases setD_mem h.1 hd with ⟨h1, _, h3⟩ | ⟨h1, _⟩
  · obtain ⟨x, hx, e⟩ := has_iff.1 h3
    have := h.2 x hx; omega
  · exact h.2 d h1
/-- A map holds what a heap should. -/
structure Pr (ds : List Dc) (l : KV) : Prop where
  get : ∀ x ∈ ds, kvGet l x.id = some x.v.agg
  none_ : ∀ id, hasD ds id = false → kvGet l id = none
  len : l.length = ds.length
theorem Pr.some_ {ds : List Dc} {l : KV} (h : Pr ds l) (id : Int) : (kvGet l id).isSome = hasD ds id := by
  cases hh : hasD ds id with
  | false => rw [h.none_ id hh]; rfl
  | true =>
    obtain ⟨x, hx, rfl⟩ := has_iff.1 hh
    rw [h.get x hx]; rfl
theorem Pr.look {ds : List Dc} {l : KV} (h : Pr ds l) (hs : Asc ds) (id : Int) : (kvGet l id).getD zR.agg = (lookD ds id).1.agg := by
  cases hh : hasD ds id with
  | false => rw [h.none_ id hh, look_none hh]; rfl
  | true =>
    obtain ⟨x, hx, rfl⟩ := has_iff.1 hh
    rw [h.get x hx, look_mem hs hx]; rfl
theorem Pr.nil : Pr [] [] := ⟨fun x hx => absurd hx (by simp), fun id _ => rfl, rfl⟩
theorem Pr.set {ds : List Dc} {l : KV} (h : Pr ds l) (hs : Asc ds) {id : Int} (hh : hasD ds id = true) (v : Rv) : Pr (setD ds id v) (kvPut l id v.agg) := by
  refine ⟨fun x hx => ?_, fun id' hn => ?_, ?_⟩
  · rw [kvGet_put]
    rcases setD_mem hs hx with ⟨h1, h2, _⟩ | ⟨h1, h2⟩
    · rw [if_pos h1, h2]
    · rw [if_neg h2]; exact h.get x h1
  · rw [has_keys (setD_keys ds id v)] at hn
    rw [kvGet_put, if_neg (fun e => by rw [e, hh] at hn; cases hn)]
    exact h.none_ id' hn
  · rw [kvPut_length, if_neg, h.len]
    · have := congrArg List.length (setD_keys ds id v)
      simpa using this.symm
    · intro e
      have := h.some_ id
      rw [e, hh] at this; cases this
theorem Pr.del {ds : List Dc} {l : KV} (h : Pr ds l) (hs : Asc ds) (hn : (kvKeys l).Nodup) (id : Int) : Pr (delD ds id) (kvDel l id) := by
  refine ⟨fun x hx => ?_, fun id' hh => ?_, ?_⟩
  · rw [kvGet_del l id x.id hn, if_neg (delD_no hs hx)]
    exact h.get x ((delD_sub ds id).subset hx)
  · rw [kvGet_del l id id' hn]
    split
    · rfl
    · rename_i hne
      refine h.none_ id' ?_
      cases hc : hasD ds id' with
      | false => rfl
      | true =>
        obtain ⟨x, hx, rfl⟩ := has_iff.1 hc
        rw [has_iff.2 ⟨x, delD_mem hs id hx hne, rfl⟩] at hh
        cases hh
  · rw [kvDel_length, delD_length hs, h.len]
    have hs' := h.some_ id
    cases hc : hasD ds id with
    | false => rw [if_pos (h.none_ id hc), if_neg (by simp)]
    | true =>
      rw [hc] at hs'
      rw [if_neg (fun e => by rw [e] at hs'; cases hs'), if_pos rfl]
theorem Pr.ins {ds : List Dc} {l : KV} {last : Int} (h : Pr ds l) (hu : Upto ds last) (v : Rv) : Pr (ds ++ [⟨last + 1, v⟩]) (kvPut l (last + 1) v.agg) := by
  have hf : hasD ds (last + 1) = false := by
    cases hc : hasD ds (last + 1) with
    | false => rfl
    | true =>
      obtain ⟨x, hx, e⟩ := has_iff.1 hc
      have := hu.2 x hx; omega
  refine ⟨fun x hx => ?_, fun id hh => ?_, ?_⟩
  · rw [kvGet_put]
    rcases List.mem_append.1 hx with h1 | h1
    · have := hu.2 x h1
      rw [if_neg (by omega)]
      exact h.get x h1
    · simp at h1
      subst h1
      rw [if_pos rfl]
  · unfold hasD at hh
    rw [List.any_append, Bool.or_eq_false_iff] at hh
    obtain ⟨h1, h2⟩ := hh
    simp at h2
    rw [kvGet_put, if_neg (fun e => h2 e.symm)]
    exact h.none_ id h1
  · rw [kvPut_length, if_pos (h.none_ _ hf), h.len, List.length_append]; rfl

/-! ### Readings -/
theorem RdW.kept : ∀ (d : Nat) {w w' : World} (hz : w.heap.size ≤ w'.heap.size) (hb : ∀ b, (HasT w b 36 ∨ HasT w b 71) → w'.heap[b]? = w.heap[b]?) (v : V) (r : Rv), RdW d w v r → RdW d w' v r
  | 0, _, _, _, _, _, _, h => h.elim
  | d + 1, w, w', hz, hb, v, r, ⟨h1, h2, h3, ⟨rs, a1, a2, a3⟩, ⟨qs, b1, b2, b3⟩⟩ =>
    ⟨h1, h2, h3, ⟨rs, a1.imp fun x y h => RdW.kept d hz hb x y h, a2.stays fun k hk => hb k (.inl (a2.hasT k hk).2.2), fun b hb' => Nat.lt_of_lt_of_le (a3 b hb') hz⟩,
      ⟨qs, b1.imp fun x y h => ⟨h.1, RdW.kept d hz hb x.2 y.2 h.2⟩, b2.stays fun k hk => hb k (.inr (b2.hasT k hk).2.2), fun b hb' => Nat.lt_of_lt_of_le (b3 b hb') hz⟩⟩
theorem Hp.no_val {B : Nat} {w : World} {p : Nat} {ds : List Dc} {last : Int} {F : Nat → Prop} (H : Hp B w p ds last F) {b : Nat} (h : HasT w b 36 ∨ HasT w b 71) : ¬ F b := fun hf => by
  obtain ⟨v, h1, h2, h3, rfl⟩ := H
  have key : ∀ {cs fr T}, w.heap[b]? = some (.cells cs T fr) → T = 57 ∨ T = 42 := fun {cs fr T} e => by
    rcases hf with rfl | hf
    · rw [h1] at e; injection e with e; injection e with _ e; exact .inl e.symm
    · obtain ⟨_, _, cs', fr', hb⟩ := h3.hasT b hf
      rw [hb] at e; injection e with e; injection e with _ e; exact .inr e.symm
  rcases h with ⟨cs, fr, h⟩ | ⟨cs, fr, h⟩
  · rcases key h with e | e <;> exact absurd e (by decide)
  · rcases key h with e | e <;> exact absurd e (by decide)
def RdAll (w : World) (ds : List Dc) : Prop := ∀ x ∈ ds, ∃ v, RdW 4 w v x.v
theorem RdAll.nil (w : World) : RdAll w [] := fun x hx => absurd hx (by simp)
theorem RdAll.below {w w' : World} {ds : List Dc} (h : RdAll w ds) (b : Below w.heap.size w w') : RdAll w' ds := fun x hx => by
  obtain ⟨v, hv⟩ := h x hx
  exact ⟨v, hv.below b⟩
theorem RdAll.mv {w w' : World} {ds : List Dc} (h : RdAll w ds) {B p : Nat} {es : List Dc} {last : Int} {F F' : Nat → Prop} (H : Hp B w p es last F) (m : Mv F F' w w') : RdAll w' ds := fun x hx => by
  obtain ⟨v, hv⟩ := h x hx
  refine ⟨v, RdW.kept 4 m.size (fun b hb => ?_) v x.v hv⟩
  have hlt : b < w.heap.size := by rcases hb with ⟨_, _, hb⟩ | ⟨_, _, hb⟩ <;> exact lt_of_block hb
  exact m.block b hlt (H.no_val hb)
theorem RdAll.grown {w w' : World} {ds : List Dc} (h : RdAll w ds) {r : Nat} {l : KV} (M : MapAt w r l) (g : w.grownBy w' (some r)) : RdAll w' ds := fun x hx => by
  obtain ⟨v, hv⟩ := h x hx
  refine ⟨v, RdW.kept 4 g.size (fun b hb => ?_) v x.v hv⟩
  rcases hb with ⟨_, _, hb⟩ | ⟨_, _, hb⟩ <;> exact (block_map g M hb).trans hb.symm
theorem RdW.mv {w w' : World} {v : V} {r : Rv} {d : Nat} (h : RdW d w v r) {B p : Nat} {es : List Dc} {last : Int} {F F' : Nat → Prop} (H : Hp B w p es last F) (m : Mv F F' w w') : RdW d w' v r := by
  refine RdW.kept d m.size (fun b hb => ?_) v r h
  have hlt : b < w.heap.size := by rcases hb with ⟨_, _, hb⟩ | ⟨_, _, hb⟩ <;> exact lt_of_block hb
  exact m.block b hlt (H.no_val hb)
theorem RdW.grown {w w' : World} {v : V} {r' : Rv} {d : Nat} (h : RdW d w v r') {r : Nat} {l : KV} (M : MapAt w r l) (g : w.grownBy w' (some r)) : RdW d w' v r' := by
  refine RdW.kept d g.size (fun b hb => ?_) v r' h
  rcases hb with ⟨_, _, hb⟩ | ⟨_, _, hb⟩ <;> exact (block_map g M hb).trans hb.symm
theorem RdAll.set {w : World} {ds : List Dc} (h : RdAll w ds) (hs : Asc ds) {v : V} {r : Rv} (hv : RdW 4 w v r) (id : Int) : RdAll w (setD ds id r) := fun x hx => by
  rcases setD_mem hs hx with ⟨_, h2, _⟩ | ⟨h1, _⟩
  · rw [h2]; exact ⟨v, hv⟩
  · exact h x h1
theorem RdAll.del {w : World} {ds : List Dc} (h : RdAll w ds) (id : Int) : RdAll w (delD ds id) := fun x hx => h x ((delD_sub ds id).subset hx)
theorem RdAll.ins {w : World} {ds : List Dc} (h : RdAll w ds) {v : V} {r : Rv} (hv : RdW 4 w v r) (id : Int) : RdAll w (ds ++ [⟨id, r⟩]) := fun x hx => by
  rcases List.mem_append.1 hx with h1 | h1
  · exact h x h1
  · simp at h1; subst h1; exact ⟨v, hv⟩
theorem RdAll.look {w : World} {ds : List Dc} (h : RdAll w ds) (hs : Asc ds) (id : Int) : ∃ v, RdW 4 w v (lookD ds id).1 := by
  cases hh : hasD ds id with
  | false => rw [look_none hh]; exact ⟨_, Rd.plain 3 0 0 ⟨#[]⟩⟩
  | true =>
    obtain ⟨x, hx, rfl⟩ := has_iff.1 hh
    rw [look_mem hs hx]; exact h x hx
theorem cmpL_refl {α : Type} {c : α → α → Int} : ∀ (l : List α), (∀ x, c x x = 0) → cmpL c l l = 0
  | [], _ => rfl
  | x :: l, h => by show (if c x x = 0 then cmpL c l l else c x x) = 0; rw [if_pos (h x)]; exact cmpL_refl l h
theorem cb_refl' (a : List UInt8) : cb a a = 0 := by
  induction a with
  | nil => rfl
  | cons x a ih => unfold cb at ih ⊢; simp [Lib.compareBytes, ih]
theorem cmpV_refl : ∀ (d : Nat) (v : V), cmpV d v v = 0
  | 0, _ => rfl
  | d + 1, v => by
    have h0 : ∀ x : Int, sgn x x = 0 := fun x => by simp [sgn]
    have h1 : cmpL (cmpV d) v.l v.l = 0 := cmpL_refl _ (cmpV_refl d)
    have h2 : cmpL (cmpF (cmpV d)) v.f v.f = 0 := cmpL_refl _ fun x => by
      show orI (cb x.1.data.toList x.1.data.toList) (cmpV d x.2 x.2) = 0
      rw [cb_refl', orI_zero rfl]; exact cmpV_refl d x.2
    show (if v.k = v.k then _ else _) = 0
    rw [if_pos rfl, h0, h1, h2, cb_refl']
    simp

/-- A heap, and the map beside it. -/
def Hm (B : Nat) (w : World) (p r : Nat) (ds : List Dc) (last : Int) (l : KV) : Prop :=
  ∃ F, Hp B w p ds last F ∧ MapAt w r l ∧ Pr ds l ∧ Upto ds last ∧ RdAll w ds ∧ B ≤ r ∧ B ≤ w.heap.size
theorem Hm.below {B : Nat} {w w' : World} {p r : Nat} {ds : List Dc} {last : Int} {l : KV} (h : Hm B w p r ds last l) (b : Below w.heap.size w w') : Hm B w' p r ds last l := by
  obtain ⟨F, h1, h2, h3, h4, h5, h6, h7⟩ := h
  exact ⟨F, h1.below b, h2.below b, h3, h4, h5.below b, h6, Nat.le_trans h7 b.size⟩

end Go.Proofs.YtlehgmfpblifkaaDoor
