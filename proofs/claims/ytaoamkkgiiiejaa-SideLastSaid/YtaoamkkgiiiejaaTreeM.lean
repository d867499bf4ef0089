/- Nodes in memory: who owns which block; what a deed at some nodes leaves as it was. -/
import Derived.Test.YtaoamkkgiiiejaaTreeD
namespace Go.Proofs.Ytaoamkkgiiiejaa
open Go.RowKit
set_option linter.unusedVariables false

def pcells (ps : List Nat) : List Value := ps.map fun p => .pointer (some ⟨p, 0, none⟩)
theorem pcells_length (ps : List Nat) : (pcells ps).length = ps.length * 1 := by simp [pcells]
theorem pcells_append (a b : List Nat) : pcells (a ++ b) = pcells a ++ pcells b := by simp [pcells]
theorem pcells_take (l : List Nat) (k : Nat) : (pcells l).take (k * 1) = pcells (l.take k) := by simp [pcells, List.map_take]
theorem pcells_drop (l : List Nat) (k : Nat) : (pcells l).drop (k * 1) = pcells (l.drop k) := by simp [pcells, List.map_drop]
theorem pcells_one (l : List Nat) : ∀ u ∈ pcells l, u.oneCell' = true := by
  intro u hu
  unfold pcells at hu
  obtain ⟨x, _, rfl⟩ := List.mem_map.1 hu
  rfl
theorem pcells_get (l : List Nat) (i : Nat) (h : i < l.length) : (pcells l)[i]? = some (.pointer (some ⟨l[i], 0, none⟩)) := by simp [pcells, h]

abbrev Ow := Nat → Option Nat
/-- What is owned lies from B on, in w. -/
def Okw (B : Nat) (w : World) (ω : Ow) : Prop := ∀ b a, ω b = some a → B ≤ b ∧ b < w.heap.size ∧ a < w.heap.size

/-- A node: its block, the row of its entries, the row of its kids; all of them its own. -/
structure Nd (w : World) (ω : Ow) (a : Nat) (v u : Value) (l : List E) (ps : List Nat) : Prop where
  blk : w.heap[a]? = some (.cells #[v, u] 61 (0, 0))
  own0 : ω a = some a
  lst : Rw 0 w 36 2 v l.length (ecells l)
  ownv : ∀ b, v.ownBlock = some b → ω b = some a
  kds : Rw 0 w 56 1 u ps.length (pcells ps)
  ownu : ∀ b, u.ownBlock = some b → ω b = some a
def Node (w : World) (ω : Ow) (a : Nat) (l : List E) (ps : List Nat) : Prop := ∃ v u, Nd w ω a v u l ps

/-- A deed at the nodes of S: nothing else that is owned has changed, nor anything that nobody owns. -/
structure Stp (S : Nat → Prop) (w : World) (ω : Ow) (w' : World) (ω' : Ow) : Prop where
  os : w'.os = w.os
  tape : w'.tape = w.tape
  output : w'.output = w.output
  size : w.heap.size ≤ w'.heap.size
  block : ∀ b, b < w.heap.size → (∀ a, ω b = some a → ¬ S a) → w'.heap[b]? = w.heap[b]?
  same : ∀ b, b < w.heap.size → ω' b = ω b
  new : ∀ b, w.heap.size ≤ b → ∀ a, ω' b = some a → S a ∨ w.heap.size ≤ a

theorem Stp.refl {B : Nat} {S : Nat → Prop} {w : World} {ω : Ow} (h : Okw B w ω) : Stp S w ω w ω :=
  ⟨rfl, rfl, rfl, Nat.le_refl _, fun _ _ _ => rfl, fun _ _ => rfl, fun b hb a ha => by have := (h b a ha).2; omega⟩
theorem Stp.of_below {B : Nat} {S : Nat → Prop} {w w' : World} {ω : Ow} (h : Okw B w ω) (hb : Below w.heap.size w w') : Stp S w ω w' ω :=
  ⟨hb.os, hb.tape, hb.output, hb.size, fun b hlt _ => hb.block b hlt, fun _ _ => rfl, fun b hb' a ha => by have := (h b a ha).2; omega⟩
theorem Okw.below {B : Nat} {w w' : World} {ω : Ow} (h : Okw B w ω) (hb : Below w.heap.size w w') : Okw B w' ω := fun b a ha => by have h1 := h b a ha; have h2 := hb.size; omega
theorem Stp.trans {S S' : Nat → Prop} {w w1 w2 : World} {ω ω1 ω2 : Ow} (h : Stp S w ω w1 ω1) (k : Stp S' w1 ω1 w2 ω2) (hS : ∀ a, S' a → S a ∨ w.heap.size ≤ a) (hω : ∀ b a, ω b = some a → a < w.heap.size) : Stp S w ω w2 ω2 := by
  refine ⟨k.os.trans h.os, k.tape.trans h.tape, k.output.trans h.output, Nat.le_trans h.size k.size, fun b hb hc => ?_, fun b hb => (k.same b (Nat.lt_of_lt_of_le hb h.size)).trans (h.same b hb), fun b hb a ha => ?_⟩
  · refine (k.block b (Nat.lt_of_lt_of_le hb h.size) fun a ha hs => ?_).trans (h.block b hb hc)
    rw [h.same b hb] at ha
    rcases hS a hs with h1 | h1
    · exact hc a ha h1
    · have := hω b a ha; omega
  · rcases Nat.lt_or_ge b w1.heap.size with h1 | h1
    · rw [k.same b h1] at ha
      exact h.new b hb a ha
    · rcases k.new b h1 a ha with h2 | h2
      · exact hS a h2
      · exact .inr (Nat.le_trans h.size h2)
theorem Stp.wider {S S' : Nat → Prop} {w w1 : World} {ω ω1 : Ow} (h : Stp S w ω w1 ω1) (hS : ∀ a, S a → S' a) : Stp S' w ω w1 ω1 :=
  ⟨h.os, h.tape, h.output, h.size, fun b hb hc => h.block b hb fun a ha hs => hc a ha (hS a hs), h.same, fun b hb a ha => (h.new b hb a ha).imp (hS a) id⟩

theorem Nd.lt {w : World} {ω : Ow} {a : Nat} {v u : Value} {l : List E} {ps : List Nat} (h : Nd w ω a v u l ps) : a < w.heap.size := lt_of_block h.blk
theorem Nd.kept {S : Nat → Prop} {w w' : World} {ω ω' : Ow} {a : Nat} {v u : Value} {l : List E} {ps : List Nat} (h : Nd w ω a v u l ps) (s : Stp S w ω w' ω') (ha : ¬ S a) : Nd w' ω' a v u l ps := by
  have key : ∀ b, b < w.heap.size → ω b = some a → w'.heap[b]? = w.heap[b]? := fun b hb hw => s.block b hb fun a' ha' hs => by
    rw [hw] at ha'
    injection ha' with e
    exact ha (e ▸ hs)
  refine ⟨(key a h.lt h.own0).trans h.blk, (s.same a h.lt).trans h.own0, h.lst.stays fun k hk => key k (h.lst.lt k hk).2 (h.ownv k hk), fun b hb => (s.same b (h.lst.lt b hb).2).trans (h.ownv b hb),
    h.kds.stays fun k hk => key k (h.kds.lt k hk).2 (h.ownu k hk), fun b hb => (s.same b (h.kds.lt b hb).2).trans (h.ownu b hb)⟩
theorem Node.kept {S : Nat → Prop} {w w' : World} {ω ω' : Ow} {a : Nat} {l : List E} {ps : List Nat} (h : Node w ω a l ps) (s : Stp S w ω w' ω') (ha : ¬ S a) : Node w' ω' a l ps := by
  obtain ⟨v, u, h⟩ := h
  exact ⟨v, u, h.kept s ha⟩
theorem Nd.cells {w : World} {ω : Ow} {a : Nat} {v u : Value} {l : List E} {ps : List Nat} (h : Nd w ω a v u l ps) : w.cell? ⟨a, 0, none⟩ = some v ∧ w.cell? ⟨a, 1, none⟩ = some u ∧ w.frozen? ⟨a, 0, none⟩ = false ∧ w.frozen? ⟨a, 1, none⟩ = false :=
  ⟨(cell_of_row w a 0 _ _ _ h.blk).trans rfl, (cell_of_row w a 1 _ _ _ h.blk).trans rfl, by simp [World.frozen?, h.blk], by simp [World.frozen?, h.blk]⟩

/-- Who owns a row that has just been made. -/
def mark (ω : Ow) (N : Nat) (v : Value) (a : Nat) : Ow := fun b => if N ≤ b ∧ v.ownBlock = some b then some a else ω b
theorem mark_old {ω : Ow} {N : Nat} {v : Value} {a b : Nat} (h : b < N) : mark ω N v a b = ω b := if_neg fun h' => by omega

/-- A node's entries are another row from now on. -/
theorem Nd.setList {B : Nat} {w w' : World} {ω : Ow} {a : Nat} {v u v' : Value} {l l' : List E} {ps : List Nat} (h : Nd w ω a v u l ps) (hok : Okw B w ω) (hB : B ≤ w.heap.size) (hm : Mv (own v) (own v') w w') (hr : Rw 0 w' 36 2 v' l'.length (ecells l')) :
    ∃ ω', Nd (w'.setCell ⟨a, 0, none⟩ v') ω' a v' u l' ps ∧ Stp (· = a) w ω (w'.setCell ⟨a, 0, none⟩ v') ω' ∧ Okw B (w'.setCell ⟨a, 0, none⟩ v') ω' ∧ w'.cell? ⟨a, 0, none⟩ = some v ∧ w'.cell? ⟨a, 1, none⟩ = some u ∧ w'.frozen? ⟨a, 0, none⟩ = false := by
  have hav : ¬ own v a := fun hk => absurd hk (h.lst.ne h.blk (by decide))
  have hau : u.ownBlock ≠ some a := h.kds.ne h.blk (by decide)
  have hblk := hm.at_ h.blk hav
  have huv : ∀ k, u.ownBlock = some k → ¬ own v k := fun k hk hk' => by
    obtain ⟨_, _, cs, fr, h1⟩ := h.kds.hasT k hk
    exact h.lst.ne h1 (by decide) hk'
  have hsz := hm.size
  refine ⟨mark ω w.heap.size v' a, ⟨?_, ?_, ?_, ?_, ?_, ?_⟩, ⟨hm.os, hm.tape, hm.output, by simpa using hm.size, fun b hb hc => ?_, fun b hb => mark_old hb, fun b hb a' ha' => ?_⟩, fun b a' ha' => ?_, (cell_of_row w' a 0 _ _ _ hblk).trans rfl, (cell_of_row w' a 1 _ _ _ hblk).trans rfl, by simp [World.frozen?, hblk]⟩
  · exact block_setCell hblk 0 v' (by simp)
  · rw [mark_old h.lt]; exact h.own0
  · exact hr.setCell_other _ _ (hr.ne hblk (by decide))
  · intro b hb
    unfold mark
    rcases Nat.lt_or_ge b w.heap.size with h1 | h1
    · rw [if_neg (by omega)]
      rcases hm.new b hb with h2 | h2
      · exact h.ownv b h2
      · omega
    · rw [if_pos ⟨h1, hb⟩]
  · exact (h.kds.stays fun k hk => hm.block k (h.kds.lt k hk).2 (huv k hk)).setCell_other _ _ hau
  · intro b hb
    rw [mark_old (h.kds.lt b hb).2]
    exact h.ownu b hb
  · have hba : b ≠ a := fun e => hc a (e ▸ h.own0) rfl
    have hbv : ¬ own v b := fun hk => hc a (h.ownv b hk) rfl
    exact (heap_setCell_other w' _ b v' hba).trans (hm.block b hb hbv)
  · unfold mark at ha'
    split at ha'
    · injection ha' with e
      exact .inl e.symm
    · have := (hok b a' ha').2; omega
  · unfold mark at ha'
    have hs2 : (w'.setCell ⟨a, 0, none⟩ v').heap.size = w'.heap.size := by simp
    split at ha'
    · rename_i h1
      injection ha' with e1
      have h9 := h.lt
      exact ⟨by omega, by rw [hs2]; exact (hr.lt b h1.2).2, by rw [hs2]; omega⟩
    · have := hok b a' ha'
      rw [hs2]
      omega

/-- A node's kids are another row from now on. -/
theorem Nd.setKids {B : Nat} {w w' : World} {ω : Ow} {a : Nat} {v u u' : Value} {l : List E} {ps ps' : List Nat} (h : Nd w ω a v u l ps) (hok : Okw B w ω) (hB : B ≤ w.heap.size) (hm : Mv (own u) (own u') w w') (hr : Rw 0 w' 56 1 u' ps'.length (pcells ps')) :
    ∃ ω', Nd (w'.setCell ⟨a, 1, none⟩ u') ω' a v u' l ps' ∧ Stp (· = a) w ω (w'.setCell ⟨a, 1, none⟩ u') ω' ∧ Okw B (w'.setCell ⟨a, 1, none⟩ u') ω' ∧ w'.cell? ⟨a, 0, none⟩ = some v ∧ w'.cell? ⟨a, 1, none⟩ = some u ∧ w'.frozen? ⟨a, 1, none⟩ = false := by
  have hav : ¬ own u a := fun hk => absurd hk (h.kds.ne h.blk (by decide))
  have hau : v.ownBlock ≠ some a := h.lst.ne h.blk (by decide)
  have hblk := hm.at_ h.blk hav
  have huv : ∀ k, v.ownBlock = some k → ¬ own u k := fun k hk hk' => by
    obtain ⟨_, _, cs, fr, h1⟩ := h.lst.hasT k hk
    exact h.kds.ne h1 (by decide) hk'
  have hsz := hm.size
  refine ⟨mark ω w.heap.size u' a, ⟨?_, ?_, ?_, ?_, ?_, ?_⟩, ⟨hm.os, hm.tape, hm.output, by simpa using hm.size, fun b hb hc => ?_, fun b hb => mark_old hb, fun b hb a' ha' => ?_⟩, fun b a' ha' => ?_, (cell_of_row w' a 0 _ _ _ hblk).trans rfl, (cell_of_row w' a 1 _ _ _ hblk).trans rfl, by simp [World.frozen?, hblk]⟩
  · exact block_setCell hblk 1 u' (by simp)
  · rw [mark_old h.lt]; exact h.own0
  · exact (h.lst.stays fun k hk => hm.block k (h.lst.lt k hk).2 (huv k hk)).setCell_other _ _ hau
  · intro b hb
    rw [mark_old (h.lst.lt b hb).2]
    exact h.ownv b hb
  · exact hr.setCell_other _ _ (hr.ne hblk (by decide))
  · intro b hb
    unfold mark
    rcases Nat.lt_or_ge b w.heap.size with h1 | h1
    · rw [if_neg (by omega)]
      rcases hm.new b hb with h2 | h2
      · exact h.ownu b h2
      · omega
    · rw [if_pos ⟨h1, hb⟩]
  · have hba : b ≠ a := fun e => hc a (e ▸ h.own0) rfl
    have hbv : ¬ own u b := fun hk => hc a (h.ownu b hk) rfl
    exact (heap_setCell_other w' _ b u' hba).trans (hm.block b hb hbv)
  · unfold mark at ha'
    split at ha'
    · injection ha' with e
      exact .inl e.symm
    · have := (hok b a' ha').2; omega
  · unfold mark at ha'
    have hs2 : (w'.setCell ⟨a, 1, none⟩ u').heap.size = w'.heap.size := by simp
    split at ha'
    · rename_i h1
      injection ha' with e1
      have h9 := h.lt
      exact ⟨by omega, by rw [hs2]; exact (hr.lt b h1.2).2, by rw [hs2]; omega⟩
    · have := hok b a' ha'
      rw [hs2]
      omega

/-- An entry of a node, put anew in its place. -/
theorem Nd.setEnt {B : Nat} {w : World} {ω : Ow} {a g n cap k : Nat} {u : Value} {l : List E} {ps : List Nat} (h : Nd w ω a (.slice (some ⟨g, 0, none⟩) n cap) u l ps) (hok : Okw B w ω) (hk : k < l.length) (e : E) :
    Nd ((w.setCell ⟨g, k * 2, none⟩ (.string e.key)).setCell ⟨g, k * 2 + 1, none⟩ (.int .i64 e.id)) ω a (.slice (some ⟨g, 0, none⟩) n cap) u (l.set k e) ps ∧
      Stp (· = a) w ω ((w.setCell ⟨g, k * 2, none⟩ (.string e.key)).setCell ⟨g, k * 2 + 1, none⟩ (.int .i64 e.id)) ω ∧ Okw B ((w.setCell ⟨g, k * 2, none⟩ (.string e.key)).setCell ⟨g, k * 2 + 1, none⟩ (.int .i64 e.id)) ω := by
  have hn : n = l.length := by
    rcases h.lst.2 with ⟨h', _⟩ | ⟨g', cap', cur, h', _⟩
    · cases h'
    · simp only [Value.slice.injEq] at h'; exact h'.2.1
  subst hn
  have hga : g ≠ a := fun e => h.lst.ne h.blk (by decide) (by rw [e]; rfl)
  have hgu : u.ownBlock ≠ some g := fun hk' => by
    obtain ⟨_, _, cs, fr, h1⟩ := h.lst.hasT g rfl
    exact h.kds.ne h1 (by decide) hk'
  have hog := h.ownv g rfl
  have hset : ((ecells l).set (k * 2) (.string e.key)).set (k * 2 + 1) (.int .i64 e.id) = ecells (l.set k e) := by
    have h1 : l = l.take k ++ l[k] :: l.drop (k + 1) := by rw [← List.drop_eq_getElem_cons hk, List.take_append_drop]
    have h2 : (l.take k).length = k := by rw [List.length_take]; omega
    have h3 : l.set k e = l.take k ++ e :: l.drop (k + 1) := by
      rw [List.set_eq_take_append_cons_drop, if_pos hk]
    rw [h3, ecells_append, ecells_cons]
    have h4 : ecells l = ecells (l.take k) ++ ([.string l[k].key, .int .i64 l[k].id] ++ ecells (l.drop (k + 1))) := by
      conv => lhs; rw [h1]
      rw [ecells_append, ecells_cons]
    have h5 : (ecells (l.take k)).length = k * 2 := by rw [ecells_length, h2]
    rw [h4, List.set_append_right _ _ (by omega), h5, Nat.sub_self, List.set_append_right _ _ (by omega), h5, Nat.add_sub_cancel_left]
    rfl
  have r1 := h.lst.setCell_ (k * 2) (.string e.key) (by omega)
  have r2 := r1.setCell_ (k * 2 + 1) (.int .i64 e.id) (by omega)
  rw [hset] at r2
  have hother : ∀ b, b ≠ g → ((w.setCell ⟨g, k * 2, none⟩ (.string e.key)).setCell ⟨g, k * 2 + 1, none⟩ (.int .i64 e.id)).heap[b]? = w.heap[b]? := fun b hb => (heap_setCell_other _ _ b _ hb).trans (heap_setCell_other _ _ b _ hb)
  refine ⟨⟨(hother a (Ne.symm hga)).trans h.blk, h.own0, by rw [List.length_set]; exact r2, h.ownv, h.kds.stays fun b hb => hother b fun e => hgu (e ▸ hb), h.ownu⟩,
    ⟨rfl, rfl, rfl, by simp, fun b hb hc => hother b fun e => hc a (e ▸ hog) rfl, fun _ _ => rfl, fun b hb a' ha' => by have := (hok b a' ha').2; omega⟩, fun b a' ha' => ?_⟩
  have := hok b a' ha'
  simpa using this

/-- A node that has just been made, of a row of entries that was made for it; without kids. -/
theorem Nd.fresh {B : Nat} {S : Nat → Prop} {w w1 : World} {ω : Ow} {v : Value} {l : List E} (hok : Okw B w ω) (hB : B ≤ w.heap.size) (hb : Below w.heap.size w w1) (hr : Rw w.heap.size w1 36 2 v l.length (ecells l)) :
    ∃ ω', Nd (w1.alloc (.cells #[v, .slice none 0 0] 61)) ω' w1.heap.size v (.slice none 0 0) l [] ∧ Stp S w ω (w1.alloc (.cells #[v, .slice none 0 0] 61)) ω' ∧ Okw B (w1.alloc (.cells #[v, .slice none 0 0] 61)) ω' := by
  have hs := hb.size
  have hmk : ∀ b, b < w.heap.size → (fun b => if b = w1.heap.size then some w1.heap.size else mark ω w.heap.size v w1.heap.size b : Ow) b = ω b := fun b hb => by
    show (if b = w1.heap.size then _ else _) = _
    rw [if_neg (by omega), mark_old hb]
  have hne : ∀ b, v.ownBlock = some b → b < w1.heap.size := fun b hb => (hr.lt b hb).2
  refine ⟨fun b => if b = w1.heap.size then some w1.heap.size else mark ω w.heap.size v w1.heap.size b, ⟨heap_alloc_new w1 _, if_pos rfl, (hr.base (Nat.zero_le _)).below (balloc _), fun b hb' => ?_, Rw.nil _ _ _ _, fun b hb' => by simp [Value.ownBlock] at hb'⟩,
    ⟨hb.os, hb.tape, hb.output, by simp; omega, fun b hb' _ => (heap_alloc_old w1 _ (by omega)).trans (hb.block b hb'), hmk, fun b hb' a ha => ?_⟩, fun b a ha => ?_⟩
  · show (if b = w1.heap.size then _ else _) = _
    rw [if_neg (by have := hne b hb'; omega)]
    exact if_pos ⟨(hr.lt b hb').1, hb'⟩
  · have ha' : (if b = w1.heap.size then some w1.heap.size else mark ω w.heap.size v w1.heap.size b) = some a := ha
    right
    split at ha'
    · injection ha' with e; omega
    · unfold mark at ha'
      split at ha'
      · injection ha' with e; omega
      · have := (hok b a ha').2; omega
  · have ha' : (if b = w1.heap.size then some w1.heap.size else mark ω w.heap.size v w1.heap.size b) = some a := ha
    simp only [World.size_alloc]
    split at ha'
    · injection ha' with e1
      omega
    · unfold mark at ha'
      split at ha'
      · rename_i h1 h2
        have := hne b h2.2
        injection ha' with e1
        omega
      · have := hok b a ha'
        omega

end Go.Proofs.Ytaoamkkgiiiejaa
