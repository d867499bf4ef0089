/- Words on worlds that the walks of this seat share: what a call may have changed. -/
import Derived.Test.YtaoamkkgiiiejaaProg
import Derived.WalkKit
import Derived.WalkLawsBesides
import Derived.WalkSpells
import Derived.Below
import Derived.OwnWalk
import Derived.Lib.Hide
import Derived.Deep.QuietTactic
import Derived.BigQuiet
import Derived.KernelRfl
import Derived.Deep.OwnRows
namespace Go.Proofs.Ytaoamkkgiiiejaa
open Go.RowKit
set_option linter.unusedVariables false

/-- Block k of w holds cells of type T. -/
def HasT (w : World) (k : Nat) (T : TypeId) : Prop := ∃ cs fr, w.heap[k]? = some (.cells cs T fr)

/-- From w to w' nothing below B has changed, nor any block that holds cells of none of the types Ts. -/
structure Only (Ts : List TypeId) (B : Nat) (w w' : World) : Prop where
  os : w'.os = w.os
  tape : w'.tape = w.tape
  output : w'.output = w.output
  size : w.heap.size ≤ w'.heap.size
  block : ∀ k, k < w.heap.size → (k < B ∨ ∀ T ∈ Ts, ¬ HasT w k T) → w'.heap[k]? = w.heap[k]?

theorem Only.refl (Ts : List TypeId) (B : Nat) (w : World) : Only Ts B w w := ⟨rfl, rfl, rfl, Nat.le_refl _, fun _ _ _ => rfl⟩

theorem Only.trans {Ts : List TypeId} {B : Nat} {a b c : World} (h : Only Ts B a b) (k : Only Ts B b c) : Only Ts B a c := by
  refine ⟨k.os.trans h.os, k.tape.trans h.tape, k.output.trans h.output, Nat.le_trans h.size k.size, fun i hi hc => ?_⟩
  have e := h.block i hi hc
  refine (k.block i (Nat.lt_of_lt_of_le hi h.size) ?_).trans e
  rcases hc with hc | hc
  · exact .inl hc
  · refine .inr fun T hT => ?_
    rintro ⟨cs, fr, hb⟩
    exact hc T hT ⟨cs, fr, by rw [← e]; exact hb⟩

theorem Only.of_below {Ts : List TypeId} {B : Nat} {w w' : World} (h : Below w.heap.size w w') : Only Ts B w w' :=
  ⟨h.os, h.tape, h.output, h.size, fun k hk _ => h.block k hk⟩

theorem Only.wider {Ts Us : List TypeId} {B : Nat} {w w' : World} (h : Only Ts B w w') (hs : ∀ T ∈ Ts, T ∈ Us) : Only Us B w w' :=
  ⟨h.os, h.tape, h.output, h.size, fun k hk hc => h.block k hk (hc.imp id fun f T hT => f T (hs T hT))⟩

theorem Only.below {Ts : List TypeId} {B : Nat} {w w' : World} (h : Only Ts B w w') (hB : B ≤ w.heap.size) : Below B w w' :=
  ⟨h.os, h.tape, h.output, h.size, fun k hk => h.block k (Nat.lt_of_lt_of_le hk hB) (.inl hk)⟩

theorem Only.grown {Ts : List TypeId} {B : Nat} {w w' : World} {row : Option Nat} (h : w.grownBy w' row) (hr : ∀ k, row = some k → B ≤ k ∧ ∃ T ∈ Ts, HasT w k T) : Only Ts B w w' := by
  refine ⟨h.os, h.tape, h.output, h.size, fun k hk hc => h.block k hk fun e => ?_⟩
  obtain ⟨h1, T, h2, h3⟩ := hr k e.symm
  rcases hc with hc | hc
  · omega
  · exact hc T h2 h3

theorem Only.setCell {Ts : List TypeId} {B : Nat} {w : World} {a : Addr} (u : Value) (hB : B ≤ a.block) {T : TypeId} (hT : T ∈ Ts) (h : HasT w a.block T) : Only Ts B w (w.setCell a u) := by
  refine ⟨rfl, rfl, rfl, by simp, fun k _ hc => heap_setCell_other w a k u fun e => ?_⟩
  subst e
  rcases hc with hc | hc
  · omega
  · exact hc T hT h

theorem Only.drew {Ts : List TypeId} {B : Nat} {w w' : World} (h : Only Ts B w w') : Only Ts B w w'.drew := ⟨h.os, h.tape, h.output, h.size, h.block⟩

theorem Only.alloc {Ts : List TypeId} {B : Nat} {w w' : World} (h : Only Ts B w w') (o : Obj) : Only Ts B w (w'.alloc o) :=
  h.trans (.of_below ((Below.refl _ _).alloc (Nat.le_refl _) o))

theorem HasT.only {Ts : List TypeId} {B : Nat} {w w' : World} {k : Nat} {T : TypeId} (h : Only Ts B w w') (hk : HasT w k T) (hT : T ∉ Ts) : HasT w' k T := by
  obtain ⟨cs, fr, hb⟩ := hk
  refine ⟨cs, fr, (h.block k (lt_of_block hb) (.inr fun T' h' hh => ?_)).trans hb⟩
  obtain ⟨cs', fr', hb'⟩ := hh
  rw [hb] at hb'
  injection hb' with hb'
  injection hb' with _ e
  exact hT (e ▸ h')

/-- A block whose type is none of Ts stands as it did. -/
theorem Only.at_ {Ts : List TypeId} {B : Nat} {w w' : World} (h : Only Ts B w w') {k : Nat} {T : TypeId} {cs : Array Value} {fr : Nat × Nat} (hb : w.heap[k]? = some (.cells cs T fr)) (hT : T ∉ Ts) : w'.heap[k]? = some (.cells cs T fr) := by
  refine (h.block k (lt_of_block hb) (.inr fun T' h' hh => ?_)).trans hb
  obtain ⟨cs', fr', hb'⟩ := hh
  rw [hb] at hb'
  injection hb' with hb'
  injection hb' with _ e
  exact hT (e ▸ h')

theorem Only.atMap {Ts : List TypeId} {B : Nat} {w w' : World} (h : Only Ts B w w') {k : Nat} {es : Array MapEntry} {c : Nat} (hb : w.heap[k]? = some (.map es c)) : w'.heap[k]? = some (.map es c) := by
  refine (h.block k (lt_of_block hb) (.inr fun T' h' hh => ?_)).trans hb
  obtain ⟨cs', fr', hb'⟩ := hh
  rw [hb] at hb'
  cases hb'

/-- A row whose type is none of Ts is owned as it was. -/
theorem Only.owns {Ts : List TypeId} {B : Nat} {w w' : World} (h : Only Ts B w w') {base : Nat} {e : TypeId} {size : Nat} {v : Value} {n : Nat} {xs : List Value} (ho : w.ownsRow base e size v n xs) (hT : e ∉ Ts) : w'.ownsRow base e size v n xs := by
  obtain ⟨h1, h2⟩ := ho
  refine ⟨h1, ?_⟩
  rcases h2 with h2 | ⟨g, cap, cur, hv, hg, hh, r⟩
  · exact .inl h2
  · exact .inr ⟨g, cap, cur, hv, hg, h.at_ hh hT, r⟩

/-- The block that an owned row lies in bears its type. -/
theorem ownsRow_hasT {w : World} {base : Nat} {e : TypeId} {size : Nat} {v : Value} {n : Nat} {xs : List Value} (ho : w.ownsRow base e size v n xs) (k : Nat) (hk : v.ownBlock = some k) : base ≤ k ∧ HasT w k e := by
  rcases ho.2 with ⟨rfl, _⟩ | ⟨g, cap, cur, rfl, hg, hh, r⟩
  · simp [Value.ownBlock] at hk
  · have e : g = k := by simpa [Value.ownBlock] using hk
    subst e
    exact ⟨hg, cur, _, hh⟩

/-- An owned row lies in another block than one of another type. -/
theorem ownsRow_ne {w : World} {base : Nat} {e : TypeId} {size : Nat} {v : Value} {n : Nat} {xs : List Value} (ho : w.ownsRow base e size v n xs) {p : Nat} {cs : Array Value} {T : TypeId} {fr : Nat × Nat} (hb : w.heap[p]? = some (.cells cs T fr)) (hT : e ≠ T) : v.ownBlock ≠ some p := by
  intro hk
  obtain ⟨_, cs', fr', hb'⟩ := ownsRow_hasT ho p hk
  rw [hb] at hb'
  injection hb' with hb'
  injection hb' with _ e'
  exact hT e'.symm

/-- The cells of an owned row, its shape. -/
theorem ownsRow_shape {w : World} {base : Nat} {e : TypeId} {size : Nat} {v : Value} {n : Nat} {xs : List Value} (ho : w.ownsRow base e size v n xs) :
    ∃ A cap, v = .slice A n cap ∧ n ≤ cap ∧ cap ≤ maxLen ∧ (0 < n → ∃ g, A = some ⟨g, 0, none⟩ ∧ base ≤ g ∧ HasT w g e ∧ ∀ j u, xs[j]? = some u → w.cell? ⟨g, j, none⟩ = some u) := by
  rcases ho.2 with ⟨rfl, rfl⟩ | ⟨g, cap, cur, rfl, hg, hh, h1, h2, h3, h4⟩
  · exact ⟨none, 0, rfl, Nat.le_refl _, Nat.zero_le _, fun h => absurd h (by omega)⟩
  · refine ⟨_, cap, rfl, h1, h2, fun _ => ⟨g, rfl, hg, ⟨cur, _, hh⟩, fun j u hu => ?_⟩⟩
    have hlt : j < xs.length := (List.getElem?_eq_some_iff.1 hu).1
    rw [ho.cellAt j (by rw [← ho.1]; exact hlt)]
    exact hu

theorem add0 (g j : Nat) : (⟨g, 0, none⟩ : Addr).add j = ⟨g, j, none⟩ := by unfold Addr.add; split <;> simp_all

/-- A block of one cell keeps its cell under Below. -/
theorem below_block {B : Nat} {w w' : World} (h : Below B w w') {k : Nat} (hk : k < B) {o : Obj} (hb : w.heap[k]? = some o) : w'.heap[k]? = some o := (h.block k hk).trans hb

/-- A row that the call owns, and one more element of it, appended: the goal's world is W with the new element laid in a block of its own. -/
theorem app_own {P : Program} {ops : Array Oper} {rest : List Oper} {o : Oper} {a : Act} {Q : Exit → Act → World → Prop} (W : World) (hgd : o.guard = none) (s x : Operand) (t e : TypeId) (z : Value) (size bytes : Nat)
    (ho : o.op = .call { callee := .builtin .append, args := #[s, x], argTypes := #[t, t] }) (ht : P.underlying t = some (.slice e))
    (hinfo : (P.info? e).map (fun i => (i.zero, i.size, i.bytes)) = some (some z, size, bytes)) (hzs : z.cells.size = size) (hsz : 0 < size)
    (B : Nat) (v : Value) (n : Nat) (xs : List Value) (cs : Array Value) (hs : a.eval s = v) (N : Nat) (hx : a.eval x = .slice (some ⟨N, 0, none⟩) 1 1) (hN : N = W.heap.size) (hcs : cs.size = size) (h1 : ∀ u ∈ cs.toList, u.oneCell' = true)
    (hown : W.ownsRow B e size v n xs) (hB : B ≤ W.heap.size) (hl : (n + 1) * bytes ≤ 140737488355328) (hn : n + 1 ≤ 140737488355328)
    (h : ∀ v' w', w'.ownsRow B e size v' (n + 1) (xs ++ cs.toList) → Only [e] B W w' → wpList P ops Q rest (a.put o.dst v') w') :
    wpList P ops Q (o :: rest) a (W.alloc (.cells cs e)) := by
  subst hN
  obtain ⟨i0, hi, hz0, hz1, hz2⟩ := info_parts hinfo
  refine wpList_append_own (W.alloc (.cells cs e)) hgd s x t ho B e i0 z size bytes ht hi hz0 hz1 hz2 hzs hsz v n xs hs (hown.alloc _) ⟨W.heap.size, 0, none⟩ 1 1 cs.toList hx (by simpa using hcs)
    (fun j u hu => ?_) h1 (by simp only [maxLen]; omega) hl (by simp; omega) ?_
  · rw [add0, cell_of_row (W.alloc (.cells cs e)) W.heap.size j cs e (0, 0) (heap_alloc_new W _)]
    simpa using hu
  · intro v' w' hown' hg _
    refine h v' w' hown' ?_
    refine (Only.alloc (Only.refl _ _ _) _).trans (Only.grown hg fun k hk => ?_)
    have h2 := ownsRow_hasT (hown.alloc (.cells cs e)) k hk
    exact ⟨h2.1, e, List.mem_cons_self .., h2.2⟩

theorem bthen {w w1 w2 : World} (h : Below w.heap.size w w1) (k : Below w1.heap.size w1 w2) : Below w.heap.size w w2 := h.trans (k.mono h.size)
theorem bnew {w w1 : World} (o : Obj) (h : Below (w.alloc o).heap.size (w.alloc o) w1) : Below w.heap.size w w1 := bthen ((Below.refl _ _).alloc (Nat.le_refl _) o) h
theorem balloc {w : World} (o : Obj) : Below w.heap.size w (w.alloc o) := (Below.refl _ _).alloc (Nat.le_refl _) o
theorem ret_int {k : IntKind} {a b : Int} (h : a = b) : Ending.returned (.int k a) = .returned (.int k b) := by rw [h]
theorem ret_bool {a b : Bool} (h : a = b) : Ending.returned (.bool a) = .returned (.bool b) := by rw [h]
theorem hid_mk {p : Prop} (h : p) : Hid p := h
theorem hid_succ {p : Nat → Prop} {k : Nat} (h : Hid (∀ j, j < k → p j)) (hk : p k) : Hid (∀ j, j < k + 1 → p j) := fun j hj => by
  rcases Nat.lt_or_ge j k with h' | h'
  · exact h j h'
  · have : j = k := by omega
    rw [this]; exact hk

theorem ownsRow_base {w : World} {base base' : Nat} {e : TypeId} {size : Nat} {v : Value} {n : Nat} {xs : List Value} (ho : w.ownsRow base e size v n xs) (h : base' ≤ base) : w.ownsRow base' e size v n xs := by
  obtain ⟨h1, h2⟩ := ho
  refine ⟨h1, ?_⟩
  rcases h2 with h2 | ⟨g, cap, cur, hv, hg, r⟩
  · exact .inl h2
  · exact .inr ⟨g, cap, cur, hv, Nat.le_trans h hg, r⟩

theorem pw_below {B : Nat} {w W : World} (h : Below B w W) {n : Nat} : Below B w (W.drewN n) := ⟨h.os, h.tape, h.output, h.size, h.block⟩
theorem only_drewN {Ts : List TypeId} {B : Nat} {w W : World} (h : Only Ts B w W) {n : Nat} : Only Ts B w (W.drewN n) := ⟨h.os, h.tape, h.output, h.size, h.block⟩

theorem ownsRow_below {w w' : World} {base : Nat} {e : TypeId} {size : Nat} {v : Value} {n : Nat} {xs : List Value} (ho : w.ownsRow base e size v n xs) (hb : Below w.heap.size w w') : w'.ownsRow base e size v n xs :=
  ho.kept (row := none) ⟨hb.os, hb.tape, hb.output, hb.size, fun i hi _ => hb.block i hi⟩ (by cases v.ownBlock <;> simp)

/-- A slice of integers that came in. -/
def InInts (k : IntKind) (w : World) (A : Option Addr) (n cap : Nat) (xs : List Int) : Prop :=
  xs.length = n ∧ n ≤ cap ∧ cap ≤ 9223372036854775807 ∧ (0 < n → ∃ b off, A = some ⟨b, off, none⟩ ∧ b < w.heap.size ∧ ∀ i, i < n → w.cell? ⟨b, off + i, none⟩ = some (.int k (xs.getD i 0)))

def ints (l : List Int) : List Value := l.map fun i : Int => .int .i64 i
theorem ints_length (l : List Int) : (ints l).length = l.length := by simp [ints]
theorem ints_append (a b : List Int) : ints (a ++ b) = ints a ++ ints b := by simp [ints]
theorem ints_get (l : List Int) (i : Nat) (h : i < l.length) : (ints l)[i]? = some (.int .i64 (l.getD i 0)) := by
  rw [List.getD_eq_getElem?_getD, List.getElem?_eq_getElem h]; simp [ints, h]
theorem ints_set (l : List Int) (i : Nat) (x : Int) : (ints l).set i (.int .i64 x) = ints (l.set i x) := by simp [ints, List.map_set]
/-- make([]T, m) of whole numbers. -/
theorem own_made (W : World) (base : Nat) (e : TypeId) (m : Nat) (hb : base ≤ W.heap.size) (hm : m ≤ 9223372036854775807) :
    (W.alloc (.cells (madeCells #[.int .i64 0] m) e)).ownsRow base e 1 (.slice (some ⟨W.heap.size, 0, none⟩) m m) m (ints (List.replicate m 0)) := by
  have h := World.ownsRow_lit (base := base) (e := e) (size := 1) W (madeCells #[.int .i64 0] m) m hb (by simpa [maxLen] using hm) (by simp [size_madeCells])
  have hl : (madeCells #[Value.int .i64 0] m).toList = ints (List.replicate m 0) := by
    rw [toList_madeCells_one]; simp [ints]
  rwa [hl] at h
/-- A number of an owned row of numbers. -/
theorem ints_at {B g n cap : Nat} {e : TypeId} {w : World} {l : List Int} (h : w.ownsRow B e 1 (.slice (some ⟨g, 0, none⟩) n cap) n (ints l)) (i : Nat) (hi : i < l.length) : w.cell? ⟨g, i, none⟩ = some (.int .i64 (l.getD i 0)) := by
  have hn : l.length = n := by have := h.1; rw [ints_length] at this; omega
  exact (h.cellAt i (by omega)).trans (ints_get l i hi)
theorem ints_store {B g n cap : Nat} {e : TypeId} {w : World} {l : List Int} (h : w.ownsRow B e 1 (.slice (some ⟨g, 0, none⟩) n cap) n (ints l)) (i : Nat) (x : Int) :
    (w.setCell ⟨g, i, none⟩ (.int .i64 x)).ownsRow B e 1 (.slice (some ⟨g, 0, none⟩) n cap) n (ints (l.set i x)) ∧ Only [e] B w (w.setCell ⟨g, i, none⟩ (.int .i64 x)) := by
  have hs := World.ownsRow.stored h i (.int .i64 x)
  rw [ints_set] at hs
  have hT := ownsRow_hasT h g rfl
  exact ⟨hs.1, Only.setCell _ (by exact hT.1) (T := e) (List.mem_cons_self ..) hT.2⟩

/-- min(len, c), as one number. -/
theorem min_fact (P : Program) (n : Nat) (c : Int) (hc : 0 ≤ c) : ∃ m : Nat, m ≤ n ∧ (m : Int) ≤ c ∧ (m = n ∨ (m : Int) = c) ∧ ∀ ats ty W, (Builtin.min_ ats ty #[.int .i64 (n : Int), .int .i64 c]).run P W = .ok (.int .i64 (m : Int)) W := by
  have h : ∀ ats ty W, (Builtin.min_ ats ty #[.int .i64 (n : Int), .int .i64 c]).run P W = .ok (.int .i64 (if c < n then c else n)) W := by
    intro ats ty W
    simp only [Builtin.min_, List.foldlM_cons, List.foldlM_nil, Builtin.min2]
    rfl
  by_cases hlt : c < n
  · refine ⟨c.toNat, by omega, by omega, .inr (by omega), fun ats ty W => ?_⟩
    rw [h, if_pos hlt, Int.toNat_of_nonneg hc]
  · refine ⟨n, Nat.le_refl _, by omega, .inl rfl, fun ats ty W => ?_⟩
    rw [h, if_neg hlt]

theorem in_none {k : IntKind} {w : World} : InInts k w none 0 0 [] := ⟨rfl, Nat.le_refl _, by omega, fun h => absurd h (by omega)⟩
theorem in_some {k : IntKind} {w : World} {x : Addr} {n cap : Nat} {zs : List Int} (hn : n ≤ cap) (hc : cap ≤ maxLen) (hz : zs.length = cap) (hcell : ∀ i, i < zs.length → w.cell? (x.add i) = some (.int k (zs.getD i 0))) : InInts k w (some x) n cap (zs.take n) := by
  refine ⟨by rw [List.length_take]; omega, hn, by simp only [maxLen] at hc; omega, fun h0 => ?_⟩
  obtain ⟨b, off, spot⟩ := x
  have h1 := hcell 0 (by omega)
  have hspot : spot = none := by simpa [Addr.add] using World.cell?_spot h1
  subst hspot
  refine ⟨b, off, rfl, World.block_lt_of_cell? w _ (by simpa [Addr.add] using h1), fun i hi => ?_⟩
  have h2 := hcell i (by omega)
  rw [Addr.add_lit] at h2
  rw [h2, List.getD_eq_getElem?_getD, List.getD_eq_getElem?_getD, List.getElem?_take, if_pos hi]
theorem wf_u8 {a : Int} (h : (Lit.int .u8 a).wf = true) : 0 ≤ a ∧ a ≤ 255 := by
  simp [Lit.wf, IntKind.min, IntKind.max, IntKind.bits, IntKind.signed] at h
  omega

theorem balloc' {B : Nat} {w : World} {o : Obj} (h : B ≤ w.heap.size) : Below B w (w.alloc o) := (Below.refl _ _).alloc h o

end Go.Proofs.Ytaoamkkgiiiejaa
