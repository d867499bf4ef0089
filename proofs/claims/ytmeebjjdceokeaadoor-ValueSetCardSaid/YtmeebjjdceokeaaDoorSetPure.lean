/- Fields by name: the plain law. -/
import Derived.Test.YtmeebjjdceokeaaDoorDel
import Derived.Test.YtmeebjjdceokeaaDoorSign
namespace Go.Proofs.YtmeebjjdceokeaaDoor
open Go.RowKit
set_option linter.unusedVariables false

abbrev Fl := List (ByteArray × V)
def gtN (name : ByteArray) : ByteArray → Bool := fun n => !Op.bytesLess n.toList name.toList && !(n.toList == name.toList)
def hasF (name : ByteArray) : Fl → Bool
  | [] => false
  | f :: l => if isN name f.1 = true then true else hasF name l
def lkF (name : ByteArray) : Fl → V
  | [] => zV
  | f :: l => if isN name f.1 = true then f.2 else lkF name l
def repF (name : ByteArray) (x : V) : Fl → Fl
  | [] => []
  | f :: l => if isN name f.1 = true then (name, x) :: l else f :: repF name x l
def insF (name : ByteArray) (x : V) : Fl → Fl
  | [] => [(name, x)]
  | f :: l => if gtN name f.1 = true then (name, x) :: f :: l else f :: insF name x l
def delF (name : ByteArray) : Fl → Fl
  | [] => []
  | f :: l => if isN name f.1 = true then l else f :: delF name l
def setF (name : ByteArray) (x : V) (l : Fl) : Fl := if hasF name l = true then repF name x l else insF name x l
def setV (v : V) (name : ByteArray) (x : V) : V := if v.k = 5 then .mk v.k v.i v.t v.l (setF name x v.f) else v
/-- Where a new field comes. -/
def insAt (name : ByteArray) (l : Fl) : Nat := if idxF (gtN name) l 0 < 0 then l.length else (idxF (gtN name) l 0).toNat

theorem isN_iff (name n : ByteArray) : isN name n = true ↔ n = name := by
  unfold isN
  rw [Lib.toList_data, Lib.toList_data, beq_iff_eq]
  constructor
  · intro h
    rcases n with ⟨⟨n⟩⟩
    rcases name with ⟨⟨m⟩⟩
    simp only at h
    rw [h]
  · intro h; rw [h]
theorem isN_false (name n : ByteArray) : isN name n = false ↔ n ≠ name := by
  rw [← Bool.not_eq_true, isN_iff]
theorem gtN_iff (name n : ByteArray) : gtN name n = true ↔ 0 < cb n.data.toList name.data.toList := by
  unfold gtN
  rw [less_cb, texteq_cb, Lib.toList_data, Lib.toList_data]
  simp
  omega
theorem idxF_shift (p : ByteArray → Bool) : ∀ (l : Fl) (i : Nat), idxF p l (i + 1) = if idxF p l i < 0 then -1 else idxF p l i + 1
  | [], i => rfl
  | f :: l, i => by
    show (if p f.1 = true then ((i + 1 : Nat) : Int) else idxF p l (i + 1 + 1)) = if (if p f.1 = true then (i : Int) else idxF p l (i + 1)) < 0 then -1 else (if p f.1 = true then (i : Int) else idxF p l (i + 1)) + 1
    by_cases h : p f.1 = true
    · rw [if_pos h, if_pos h, if_neg (by omega)]; omega
    · rw [if_neg h, if_neg h]; exact idxF_shift p l (i + 1)
theorem idxF_cons (p : ByteArray → Bool) (f : ByteArray × V) (l : Fl) : idxF p (f :: l) 0 = if p f.1 = true then 0 else if idxF p l 0 < 0 then -1 else idxF p l 0 + 1 := by
  rw [← idxF_shift]; rfl
theorem idxF_ge (p : ByteArray → Bool) (l : Fl) : -1 ≤ idxF p l 0 := by
  rcases idxF_range p l 0 with h | ⟨k, h, _⟩ <;> omega
theorem hasF_idx (name : ByteArray) : ∀ l : Fl, hasF name l = decide (0 ≤ idxF (isN name) l 0)
  | [] => rfl
  | f :: l => by
    have ih := hasF_idx name l
    rw [idxF_cons]
    show (if isN name f.1 = true then true else hasF name l) = _
    by_cases h : isN name f.1 = true
    · rw [if_pos h, if_pos h]; rfl
    · rw [if_neg h, if_neg h, ih]
      by_cases h2 : idxF (isN name) l 0 < 0
      · rw [if_pos h2, decide_eq_false (by omega)]; rfl
      · rw [if_neg h2, decide_eq_true (by omega), decide_eq_true (by omega)]
theorem lkF_idx (name : ByteArray) : ∀ l : Fl, (if 0 ≤ idxF (isN name) l 0 then (l.getD (idxF (isN name) l 0).toNat (⟨#[]⟩, zV)).2 else zV) = lkF name l
  | [] => rfl
  | f :: l => by
    have ih := lkF_idx name l
    rw [idxF_cons]
    show _ = if isN name f.1 = true then f.2 else lkF name l
    by_cases h : isN name f.1 = true
    · rw [if_pos h, if_pos h]; rfl
    · rw [if_neg h, if_neg h, ← ih]
      by_cases h2 : idxF (isN name) l 0 < 0
      · rw [if_pos h2, if_neg (by omega), if_neg (by omega)]
      · rw [if_neg h2, if_pos (by omega), if_pos (by omega), show (idxF (isN name) l 0 + 1).toNat = (idxF (isN name) l 0).toNat + 1 by omega]
        rfl
theorem repF_idx (name : ByteArray) (x : V) : ∀ l : Fl, 0 ≤ idxF (isN name) l 0 → l.set (idxF (isN name) l 0).toNat (name, x) = repF name x l
  | [], h => absurd h (by show ¬ (0 : Int) ≤ -1; omega)
  | f :: l, h0 => by
    rw [idxF_cons] at h0 ⊢
    show _ = if isN name f.1 = true then (name, x) :: l else f :: repF name x l
    by_cases h : isN name f.1 = true
    · rw [if_pos h, if_pos h]; rfl
    · rw [if_neg h] at h0
      rw [if_neg h, if_neg h]
      by_cases h2 : idxF (isN name) l 0 < 0
      · rw [if_pos h2] at h0; omega
      · rw [if_neg h2, show (idxF (isN name) l 0 + 1).toNat = (idxF (isN name) l 0).toNat + 1 by omega, List.set_cons_succ, repF_idx name x l (by omega)]
theorem delF_idx (name : ByteArray) : ∀ l : Fl, 0 ≤ idxF (isN name) l 0 → l.take (idxF (isN name) l 0).toNat ++ l.drop ((idxF (isN name) l 0).toNat + 1) = delF name l
  | [], h => absurd h (by show ¬ (0 : Int) ≤ -1; omega)
  | f :: l, h0 => by
    rw [idxF_cons] at h0 ⊢
    show _ = if isN name f.1 = true then l else f :: delF name l
    by_cases h : isN name f.1 = true
    · rw [if_pos h, if_pos h]; rfl
    · rw [if_neg h] at h0
      rw [if_neg h, if_neg h]
      by_cases h2 : idxF (isN name) l 0 < 0
      · rw [if_pos h2] at h0; omega
      · rw [if_neg h2, show (idxF (isN name) l 0 + 1).toNat = (idxF (isN name) l 0).toNat + 1 by omega, List.take_succ_cons, List.drop_succ_cons, List.cons_append, delF_idx name l (by omega)]
theorem delF_none (name : ByteArray) : ∀ l : Fl, hasF name l = false → delF name l = l
  | [], _ => rfl
  | f :: l, h0 => by
    have h0' : (if isN name f.1 = true then true else hasF name l) = false := h0
    show (if isN name f.1 = true then l else f :: delF name l) = _
    by_cases h : isN name f.1 = true
    · rw [if_pos h] at h0'; cases h0'
    · rw [if_neg h] at h0' ⊢; rw [delF_none name l h0']
theorem insF_idx (name : ByteArray) (x : V) : ∀ l : Fl, l.take (insAt name l) ++ (name, x) :: l.drop (insAt name l) = insF name x l
  | [] => rfl
  | f :: l => by
    have ih := insF_idx name x l
    unfold insAt at ih ⊢
    have hg := idxF_ge (gtN name) l
    rw [idxF_cons]
    show _ = if gtN name f.1 = true then (name, x) :: f :: l else f :: insF name x l
    by_cases h : gtN name f.1 = true
    · rw [if_pos h, if_pos h]; rfl
    · rw [if_neg h, if_neg h, ← ih]
      by_cases h2 : idxF (gtN name) l 0 < 0
      · rw [if_pos h2, if_pos (by omega), if_pos h2, List.length_cons, List.take_succ_cons, List.drop_succ_cons]; rfl
      · rw [if_neg h2, if_neg (by omega), if_neg h2, show (idxF (gtN name) l 0 + 1).toNat = (idxF (gtN name) l 0).toNat + 1 by omega, List.take_succ_cons, List.drop_succ_cons]; rfl
theorem insAt_le (name : ByteArray) (l : Fl) : insAt name l ≤ l.length := by
  unfold insAt
  split
  · exact Nat.le_refl _
  · rcases idxF_range (gtN name) l 0 with h | ⟨k, h, hk, _⟩
    · omega
    · rw [h]; omega
theorem getV_lk (v : V) (name : ByteArray) (h : v.k = 5) : getV v name = lkF name v.f := by
  unfold getV atV
  simp only [if_pos h]
  exact lkF_idx name v.f
theorem at_has (v : V) (name : ByteArray) (h : v.k = 5) : decide (0 ≤ atV v name) = hasF name v.f := by
  unfold atV
  rw [if_pos h, hasF_idx]
theorem delV_del (v : V) (name : ByteArray) (h : v.k = 5) : delV v name = .mk v.k v.i v.t v.l (delF name v.f) := by
  unfold delV
  by_cases h0 : 0 ≤ atV v name
  · rw [if_pos h0]
    have h1 := h0
    unfold atV at h1 ⊢
    rw [if_pos h] at h1 ⊢
    rw [delF_idx name v.f h1]
  · rw [if_neg h0]
    have h1 : hasF name v.f = false := by rw [← at_has v name h]; exact decide_eq_false h0
    rw [delF_none name v.f h1]
    cases v; rfl
theorem hasF_mem (name : ByteArray) : ∀ l : Fl, hasF name l = true ↔ ∃ f ∈ l, f.1 = name
  | [] => by simp [hasF]
  | f :: l => by
    have ih := hasF_mem name l
    show (if isN name f.1 = true then true else hasF name l) = true ↔ _
    by_cases h : isN name f.1 = true
    · rw [if_pos h]; exact ⟨fun _ => ⟨f, List.mem_cons_self .., (isN_iff _ _).1 h⟩, fun _ => rfl⟩
    · rw [if_neg h, ih]
      constructor
      · rintro ⟨g, h1, h2⟩; exact ⟨g, List.mem_cons_of_mem _ h1, h2⟩
      · rintro ⟨g, h1, h2⟩
        rcases List.mem_cons.1 h1 with rfl | h1
        · exact absurd ((isN_iff _ _).2 h2) h
        · exact ⟨g, h1, h2⟩
theorem insF_mem (name : ByteArray) (x : V) (g : ByteArray × V) : ∀ l : Fl, g ∈ insF name x l ↔ g = (name, x) ∨ g ∈ l
  | [] => by simp [insF]
  | f :: l => by
    have ih := insF_mem name x g l
    show g ∈ (if gtN name f.1 = true then (name, x) :: f :: l else f :: insF name x l) ↔ _
    by_cases h : gtN name f.1 = true
    · rw [if_pos h]; simp
    · rw [if_neg h]; simp [ih, or_left_comm]
theorem repF_names (name : ByteArray) (x : V) : ∀ l : Fl, (repF name x l).map (·.1) = l.map (·.1)
  | [] => rfl
  | f :: l => by
    show (if isN name f.1 = true then (name, x) :: l else f :: repF name x l).map (·.1) = _
    by_cases h : isN name f.1 = true
    · rw [if_pos h]; simp [(isN_iff _ _).1 h]
    · rw [if_neg h]; simp [repF_names name x l]
theorem namesUp_map {a b : Fl} (h : a.map (·.1) = b.map (·.1)) (hb : namesUp b) : namesUp a := by
  unfold namesUp at hb ⊢
  have h1 : (b.map (·.1)).Pairwise fun x y : ByteArray => cb x.data.toList y.data.toList < 0 := List.pairwise_map.2 hb
  rw [← h] at h1
  exact List.pairwise_map.1 h1
theorem insF_up (name : ByteArray) (x : V) : ∀ l : Fl, namesUp l → hasF name l = false → namesUp (insF name x l)
  | [], _, _ => List.pairwise_singleton _ _
  | f :: l, hu, hn => by
    obtain ⟨h1, h2⟩ := List.pairwise_cons.1 hu
    have hn' : (if isN name f.1 = true then true else hasF name l) = false := hn
    have hne : ¬ isN name f.1 = true := fun h => by rw [if_pos h] at hn'; cases hn'
    rw [if_neg hne] at hn'
    show namesUp (if gtN name f.1 = true then (name, x) :: f :: l else f :: insF name x l)
    by_cases h : gtN name f.1 = true
    · rw [if_pos h]
      have hg := (gtN_iff _ _).1 h
      have h0 : cb name.data.toList f.1.data.toList < 0 := by have := cb_tot.anti f.1 name; (try simp only at this); omega
      refine List.pairwise_cons.2 ⟨fun g hg' => ?_, hu⟩
      rcases List.mem_cons.1 hg' with rfl | hg'
      · exact h0
      · exact cb_trans _ _ _ h0 (h1 g hg')
    · rw [if_neg h]
      refine List.pairwise_cons.2 ⟨fun g hg => ?_, insF_up name x l h2 hn'⟩
      rcases (insF_mem name x g l).1 hg with rfl | hg
      · have h3 : ¬ 0 < cb f.1.data.toList name.data.toList := fun h9 => h ((gtN_iff _ _).2 h9)
        have h4 : ¬ cb f.1.data.toList name.data.toList = 0 := fun h9 => hne ((isN_iff _ _).2 (by
          have h8 := cb_zero _ _ h9
          rcases f with ⟨⟨⟨f⟩⟩, fv⟩
          rcases name with ⟨⟨m⟩⟩
          simp only at h8
          rw [h8]))
        show cb f.1.data.toList name.data.toList < 0
        omega
      · exact h1 g hg
theorem setF_up (name : ByteArray) (x : V) (l : Fl) (hu : namesUp l) : namesUp (setF name x l) := by
  unfold setF
  by_cases h : hasF name l = true
  · rw [if_pos h]; exact namesUp_map (repF_names name x l) hu
  · rw [if_neg h]; exact insF_up name x l hu (by simpa using h)
theorem setF_has (name : ByteArray) (x : V) (l : Fl) : hasF name (setF name x l) = true := by
  unfold setF
  by_cases h : hasF name l = true
  · rw [if_pos h]
    obtain ⟨f, hf, he⟩ := (hasF_mem name l).1 h
    have h1 : name ∈ (repF name x l).map (·.1) := by rw [repF_names]; exact List.mem_map.2 ⟨f, hf, he⟩
    obtain ⟨g, hg, hge⟩ := List.mem_map.1 h1
    exact (hasF_mem name _).2 ⟨g, hg, hge⟩
  · rw [if_neg h]
    exact (hasF_mem name _).2 ⟨(name, x), (insF_mem name x _ l).2 (.inl rfl), rfl⟩
theorem lk_rep (name : ByteArray) (x : V) : ∀ l : Fl, hasF name l = true → lkF name (repF name x l) = x
  | [], h => by cases h
  | f :: l, h0 => by
    have h0' : (if isN name f.1 = true then true else hasF name l) = true := h0
    show lkF name (if isN name f.1 = true then (name, x) :: l else f :: repF name x l) = x
    by_cases h : isN name f.1 = true
    · rw [if_pos h]
      show (if isN name name = true then x else lkF name l) = x
      rw [if_pos ((isN_iff _ _).2 rfl)]
    · rw [if_neg h] at h0' ⊢
      show (if isN name f.1 = true then f.2 else lkF name (repF name x l)) = x
      rw [if_neg h]; exact lk_rep name x l h0'
theorem lk_ins (name : ByteArray) (x : V) : ∀ l : Fl, hasF name l = false → lkF name (insF name x l) = x
  | [], _ => if_pos ((isN_iff _ _).2 rfl)
  | f :: l, h0 => by
    have h0' : (if isN name f.1 = true then true else hasF name l) = false := h0
    show lkF name (if gtN name f.1 = true then (name, x) :: f :: l else f :: insF name x l) = x
    by_cases h : isN name f.1 = true
    · rw [if_pos h] at h0'; cases h0'
    · rw [if_neg h] at h0'
      by_cases g : gtN name f.1 = true
      · rw [if_pos g]
        show (if isN name name = true then x else lkF name (f :: l)) = x
        rw [if_pos ((isN_iff _ _).2 rfl)]
      · rw [if_neg g]
        show (if isN name f.1 = true then f.2 else lkF name (insF name x l)) = x
        rw [if_neg h]; exact lk_ins name x l h0'
theorem setF_lk (name : ByteArray) (x : V) (l : Fl) : lkF name (setF name x l) = x := by
  unfold setF
  by_cases h : hasF name l = true
  · rw [if_pos h]; exact lk_rep name x l h
  · rw [if_neg h]; exact lk_ins name x l (by simpa using h)
/-- Other names. -/
theorem rep_other (name n : ByteArray) (x : V) (hne : n ≠ name) : ∀ l : Fl, hasF n (repF name x l) = hasF n l ∧ lkF n (repF name x l) = lkF n l
  | [] => ⟨rfl, rfl⟩
  | f :: l => by
    have ih := rep_other name n x hne l
    show hasF n (if isN name f.1 = true then (name, x) :: l else f :: repF name x l) = _ ∧ lkF n (if isN name f.1 = true then (name, x) :: l else f :: repF name x l) = _
    by_cases h : isN name f.1 = true
    · rw [if_pos h]
      have h1 : ¬ isN n name = true := fun h9 => hne ((isN_iff _ _).1 h9).symm
      have h2 : ¬ isN n f.1 = true := by rw [(isN_iff _ _).1 h]; exact h1
      exact ⟨(if_neg h1).trans (if_neg h2).symm, (if_neg h1).trans (if_neg h2).symm⟩
    · rw [if_neg h]
      show (if isN n f.1 = true then true else hasF n (repF name x l)) = (if isN n f.1 = true then true else hasF n l) ∧ (if isN n f.1 = true then f.2 else lkF n (repF name x l)) = (if isN n f.1 = true then f.2 else lkF n l)
      rw [ih.1, ih.2]; exact ⟨rfl, rfl⟩
theorem ins_other (name n : ByteArray) (x : V) (hne : n ≠ name) : ∀ l : Fl, hasF n (insF name x l) = hasF n l ∧ lkF n (insF name x l) = lkF n l
  | [] => by
    have h1 : ¬ isN n name = true := fun h9 => hne ((isN_iff _ _).1 h9).symm
    exact ⟨if_neg h1, if_neg h1⟩
  | f :: l => by
    have ih := ins_other name n x hne l
    show hasF n (if gtN name f.1 = true then (name, x) :: f :: l else f :: insF name x l) = _ ∧ lkF n (if gtN name f.1 = true then (name, x) :: f :: l else f :: insF name x l) = _
    by_cases h : gtN name f.1 = true
    · rw [if_pos h]
      have h1 : ¬ isN n name = true := fun h9 => hne ((isN_iff _ _).1 h9).symm
      exact ⟨if_neg h1, if_neg h1⟩
    · rw [if_neg h]
      show (if isN n f.1 = true then true else hasF n (insF name x l)) = (if isN n f.1 = true then true else hasF n l) ∧ (if isN n f.1 = true then f.2 else lkF n (insF name x l)) = (if isN n f.1 = true then f.2 else lkF n l)
      rw [ih.1, ih.2]; exact ⟨rfl, rfl⟩
theorem setF_other (name n : ByteArray) (x : V) (l : Fl) (hne : n ≠ name) : hasF n (setF name x l) = hasF n l ∧ lkF n (setF name x l) = lkF n l := by
  unfold setF
  by_cases h : hasF name l = true
  · rw [if_pos h]; exact rep_other name n x hne l
  · rw [if_neg h]; exact ins_other name n x hne l
/-- Each field of a row whose names rise is found. -/
theorem lk_at : ∀ (l : Fl), namesUp l → ∀ f ∈ l, hasF f.1 l = true ∧ lkF f.1 l = f.2
  | [], _, f, hf => absurd hf (by simp)
  | g :: l, hu, f, hf => by
    obtain ⟨h1, h2⟩ := List.pairwise_cons.1 hu
    show (if isN f.1 g.1 = true then true else hasF f.1 l) = true ∧ (if isN f.1 g.1 = true then g.2 else lkF f.1 l) = f.2
    rcases List.mem_cons.1 hf with rfl | hf
    · rw [if_pos ((isN_iff _ _).2 rfl), if_pos ((isN_iff _ _).2 rfl)]; exact ⟨rfl, rfl⟩
    · have h3 : ¬ isN f.1 g.1 = true := fun h9 => by
        have h4 := h1 f hf
        rw [(isN_iff _ _).1 h9, cb_self] at h4
        omega
      rw [if_neg h3, if_neg h3]
      exact lk_at l h2 f hf
theorem repF_len (name : ByteArray) (x : V) (l : Fl) : (repF name x l).length = l.length := by
  have h := congrArg List.length (repF_names name x l)
  simpa using h
theorem insF_len (name : ByteArray) (x : V) : ∀ l : Fl, (insF name x l).length = l.length + 1
  | [] => rfl
  | f :: l => by
    show (if gtN name f.1 = true then (name, x) :: f :: l else f :: insF name x l).length = _
    by_cases h : gtN name f.1 = true
    · rw [if_pos h]; rfl
    · rw [if_neg h, List.length_cons, insF_len name x l]; rfl
theorem setF_len (name : ByteArray) (x : V) (l : Fl) : (setF name x l).length = if hasF name l = true then l.length else l.length + 1 := by
  unfold setF
  by_cases h : hasF name l = true
  · rw [if_pos h, if_pos h, repF_len]
  · rw [if_neg h, if_neg h, insF_len]
theorem rep_rep (name : ByteArray) (x : V) : ∀ l : Fl, repF name (lkF name l) (repF name x l) = l
  | [] => rfl
  | f :: l => by
    show repF name (if isN name f.1 = true then f.2 else lkF name l) (if isN name f.1 = true then (name, x) :: l else f :: repF name x l) = f :: l
    by_cases h : isN name f.1 = true
    · rw [if_pos h, if_pos h]
      show (if isN name name = true then (name, f.2) :: l else _) = _
      rw [if_pos ((isN_iff _ _).2 rfl), ← (isN_iff _ _).1 h]
    · rw [if_neg h, if_neg h]
      show (if isN name f.1 = true then _ else f :: repF name (lkF name l) (repF name x l)) = _
      rw [if_neg h, rep_rep name x l]
theorem set_back (name : ByteArray) (x : V) (l : Fl) (h : hasF name l = true) : setF name (lkF name l) (setF name x l) = l := by
  have h1 := setF_has name x l
  have e : setF name x l = repF name x l := if_pos h
  rw [e] at h1 ⊢
  have e2 : setF name (lkF name l) (repF name x l) = repF name (lkF name l) (repF name x l) := if_pos h1
  rw [e2, rep_rep]
theorem del_ins (name : ByteArray) (x : V) : ∀ l : Fl, hasF name l = false → delF name (insF name x l) = l
  | [], _ => if_pos ((isN_iff _ _).2 rfl)
  | f :: l, h0 => by
    have h0' : (if isN name f.1 = true then true else hasF name l) = false := h0
    show delF name (if gtN name f.1 = true then (name, x) :: f :: l else f :: insF name x l) = _
    by_cases h : isN name f.1 = true
    · rw [if_pos h] at h0'; cases h0'
    · rw [if_neg h] at h0'
      by_cases g : gtN name f.1 = true
      · rw [if_pos g]
        exact if_pos ((isN_iff _ _).2 rfl)
      · rw [if_neg g]
        show (if isN name f.1 = true then _ else f :: delF name (insF name x l)) = _
        rw [if_neg h, del_ins name x l h0']
theorem del_set (name : ByteArray) (x : V) (l : Fl) (h : hasF name l = false) : delF name (setF name x l) = l := by
  unfold setF
  rw [if_neg (by rw [h]; decide)]
  exact del_ins name x l h
theorem delF_sub (name : ByteArray) : ∀ l : Fl, (delF name l).Sublist l
  | [] => List.Sublist.refl _
  | f :: l => by
    show (if isN name f.1 = true then l else f :: delF name l).Sublist _
    by_cases h : isN name f.1 = true
    · rw [if_pos h]; exact List.sublist_cons_self ..
    · rw [if_neg h]; exact (delF_sub name l).cons_cons f
theorem delF_up (name : ByteArray) (l : Fl) (h : namesUp l) : namesUp (delF name l) := List.Pairwise.sublist (delF_sub name l) h
theorem delF_gone (name : ByteArray) : ∀ l : Fl, namesUp l → hasF name (delF name l) = false
  | [], _ => rfl
  | f :: l, hu => by
    obtain ⟨h1, h2⟩ := List.pairwise_cons.1 hu
    show hasF name (if isN name f.1 = true then l else f :: delF name l) = false
    by_cases h : isN name f.1 = true
    · rw [if_pos h]
      rw [← Bool.not_eq_true, hasF_mem]
      rintro ⟨g, hg, hge⟩
      have h4 := h1 g hg
      rw [(isN_iff _ _).1 h, hge, cb_self] at h4
      omega
    · rw [if_neg h]
      show (if isN name f.1 = true then true else hasF name (delF name l)) = false
      rw [if_neg h]; exact delF_gone name l h2
theorem delF_len (name : ByteArray) : ∀ l : Fl, hasF name l = true → (delF name l).length + 1 = l.length
  | [], h => by cases h
  | f :: l, h0 => by
    have h0' : (if isN name f.1 = true then true else hasF name l) = true := h0
    show (if isN name f.1 = true then l else f :: delF name l).length + 1 = _
    by_cases h : isN name f.1 = true
    · rw [if_pos h]; rfl
    · rw [if_neg h] at h0' ⊢
      rw [List.length_cons, delF_len name l h0']; rfl

end Go.Proofs.YtmeebjjdceokeaaDoor
