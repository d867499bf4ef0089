/- Entries in order, and trees of them: plain lists. -/
import Derived.Lib.Bytealg
import Derived.Lib.Hide
namespace Go.Proofs.Ytaoamkkgiiiejaa
set_option linter.unusedVariables false

/-! ### Entries -/
structure E where
  key : ByteArray
  id : Int
  deriving DecidableEq

def cb (a b : List UInt8) : Int := Lib.compareBytes a b
theorem cb_self : ∀ a, cb a a = 0
  | [] => rfl
  | x :: a => by
    have h := cb_self a
    unfold cb at h ⊢
    simp [Lib.compareBytes, h]
theorem cb_swap : ∀ a b, cb b a = - cb a b
  | [], [] => rfl
  | [], _ :: _ => by simp [cb, Lib.compareBytes]
  | _ :: _, [] => by simp [cb, Lib.compareBytes]
  | x :: a, y :: b => by
    have h := cb_swap a b
    unfold cb at h ⊢
    unfold Lib.compareBytes
    by_cases h1 : x < y
    · have h2 : ¬ y < x := UInt8.lt_asymm h1
      simp [h1, h2]
    · by_cases h2 : y < x
      · simp [h1, h2]
      · simp [h1, h2, h]
theorem cb_zero : ∀ a b, cb a b = 0 → a = b
  | [], [], _ => rfl
  | [], _ :: _, h => by simp [cb, Lib.compareBytes] at h
  | _ :: _, [], h => by simp [cb, Lib.compareBytes] at h
  | x :: a, y :: b, h => by
    unfold cb Lib.compareBytes at h
    by_cases h1 : x < y
    · simp [h1] at h
    · by_cases h2 : y < x
      · simp [h1, h2] at h
      · simp only [h1, h2, if_false] at h
        rw [cb_zero a b h, UInt8.le_antisymm (UInt8.not_lt.1 h2) (UInt8.not_lt.1 h1)]
theorem cb_trans : ∀ a b c, cb a b < 0 → cb b c < 0 → cb a c < 0
  | [], [], _, h, _ => by simp [cb, Lib.compareBytes] at h
  | [], _ :: _, [], _, h => by simp [cb, Lib.compareBytes] at h
  | [], _ :: _, _ :: _, _, _ => by simp [cb, Lib.compareBytes]
  | _ :: _, [], _, h, _ => by simp [cb, Lib.compareBytes] at h
  | _ :: _, _ :: _, [], _, h => by simp [cb, Lib.compareBytes] at h
  | x :: a, y :: b, z :: c, h1, h2 => by
    have ih := cb_trans a b c
    unfold cb at h1 h2 ih ⊢
    unfold Lib.compareBytes at h1 h2 ⊢
    by_cases p1 : x < y
    · by_cases p2 : y < z
      · simp [UInt8.lt_trans p1 p2]
      · by_cases p3 : z < y
        · simp [p2, p3] at h2
        · have e : y = z := UInt8.le_antisymm (UInt8.not_lt.1 p3) (UInt8.not_lt.1 p2)
          subst e
          simp [p1]
    · by_cases p1' : y < x
      · simp [p1, p1'] at h1
      · have e : x = y := UInt8.le_antisymm (UInt8.not_lt.1 p1') (UInt8.not_lt.1 p1)
        subst e
        simp only [p1, if_false] at h1
        by_cases p2 : x < z
        · simp [p2]
        · by_cases p3 : z < x
          · simp [p2, p3] at h2
          · simp only [p2, p3, if_false] at h2 ⊢
            exact ih h1 h2
theorem cb_cases : ∀ a b, cb a b = -1 ∨ cb a b = 0 ∨ cb a b = 1
  | [], [] => by simp [cb, Lib.compareBytes]
  | [], _ :: _ => by simp [cb, Lib.compareBytes]
  | _ :: _, [] => by simp [cb, Lib.compareBytes]
  | x :: a, y :: b => by
    have h := cb_cases a b
    unfold cb at h ⊢
    unfold Lib.compareBytes
    by_cases h1 : x < y
    · simp [h1]
    · by_cases h2 : y < x
      · simp [h1, h2]
      · simpa [h1, h2] using h

def sgn (a b : Int) : Int := if a < b then -1 else if b < a then 1 else 0
def kcmp (a b : E) : Int := cb a.key.data.toList b.key.data.toList
def cmpE (a b : E) : Int := if kcmp a b = 0 then sgn a.id b.id else kcmp a b

theorem kcmp_key {a b : E} (h : kcmp a b = 0) : a.key = b.key := by
  have h1 := cb_zero _ _ h
  have h2 : a.key.data = b.key.data := Array.ext' h1
  rcases a with ⟨⟨ka⟩, ia⟩
  rcases b with ⟨⟨kb⟩, ib⟩
  simp only at h2 ⊢
  rw [h2]
theorem cmpE_self (a : E) : cmpE a a = 0 := by
  unfold cmpE kcmp sgn
  simp [cb_self]
theorem cmpE_swap (a b : E) : cmpE b a = - cmpE a b := by
  have h := cb_swap a.key.data.toList b.key.data.toList
  unfold cmpE kcmp sgn
  by_cases h0 : cb a.key.data.toList b.key.data.toList = 0
  · rw [h, h0]
    simp only [Int.neg_zero, if_true]
    split <;> split <;> omega
  · rw [h, if_neg h0, if_neg (by omega)]
theorem cmpE_zero (a b : E) (h : cmpE a b = 0) : a = b := by
  unfold cmpE sgn at h
  by_cases h0 : kcmp a b = 0
  · rw [if_pos h0] at h
    have h1 := kcmp_key h0
    have h2 : a.id = b.id := by
      split at h
      · omega
      · split at h <;> omega
    rcases a with ⟨ka, ia⟩
    rcases b with ⟨kb, ib⟩
    simp only at h1 h2
    rw [h1, h2]
  · rw [if_neg h0] at h; exact absurd h h0
theorem cmpE_trans (a b c : E) (h1 : cmpE a b < 0) (h2 : cmpE b c < 0) : cmpE a c < 0 := by
  unfold cmpE at h1 h2 ⊢
  by_cases p1 : kcmp a b = 0
  · have e1 := kcmp_key p1
    by_cases p2 : kcmp b c = 0
    · have e2 := kcmp_key p2
      have p3 : kcmp a c = 0 := by unfold kcmp; rw [e1, e2]; exact cb_self _
      rw [if_pos p1] at h1; rw [if_pos p2] at h2; rw [if_pos p3]
      unfold sgn at h1 h2 ⊢
      split at h1
      · split at h2
        · rw [if_pos (by omega)]; omega
        · split at h2 <;> omega
      · split at h1 <;> omega
    · rw [if_neg p2] at h2
      have p3 : kcmp a c = kcmp b c := by unfold kcmp; rw [e1]
      rw [p3, if_neg p2]; exact h2
  · rw [if_neg p1] at h1
    by_cases p2 : kcmp b c = 0
    · have e2 := kcmp_key p2
      have p3 : kcmp a c = kcmp a b := by unfold kcmp; rw [← e2]
      rw [p3, if_neg p1]; exact h1
    · rw [if_neg p2] at h2
      have h3 := cb_trans _ _ _ h1 h2
      have h4 : kcmp a c < 0 := h3
      rw [if_neg (by omega)]; exact h4

def lt (a b : E) : Prop := cmpE a b < 0
instance (a b : E) : Decidable (lt a b) := inferInstanceAs (Decidable (cmpE a b < 0))
theorem lt_irrefl (a : E) : ¬ lt a a := by unfold lt; rw [cmpE_self]; omega
theorem lt_trans {a b c : E} (h1 : lt a b) (h2 : lt b c) : lt a c := cmpE_trans a b c h1 h2
theorem lt_asymm {a b : E} (h1 : lt a b) : ¬ lt b a := fun h2 => lt_irrefl a (lt_trans h1 h2)
theorem lt_tri (a b : E) : lt a b ∨ a = b ∨ lt b a := by
  unfold lt
  have h := cmpE_swap a b
  by_cases h0 : cmpE a b = 0
  · exact .inr (.inl (cmpE_zero a b h0))
  · rcases Int.lt_or_gt_of_ne h0 with h1 | h1
    · exact .inl h1
    · exact .inr (.inr (by omega))
theorem lt_of_ne {a b : E} (h : ¬ lt a b) (hne : a ≠ b) : lt b a := by
  rcases lt_tri a b with h1 | h1 | h1
  · exact absurd h1 h
  · exact absurd h1 hne
  · exact h1

/-! ### Entries in order -/
abbrev Srt (l : List E) : Prop := l.Pairwise lt
def below (e : E) (l : List E) : List E := l.filter fun x => decide (lt x e)
def above (e : E) (l : List E) : List E := l.filter fun x => decide (lt e x)
def ins (e : E) (l : List E) : List E := below e l ++ e :: above e l
def del (e : E) (l : List E) : List E := below e l ++ above e l
/-- With one more entry. -/
def add (e : E) (l : List E) : List E := if e ∈ l then l else ins e l

theorem below_append (e : E) (a b : List E) : below e (a ++ b) = below e a ++ below e b := List.filter_append ..
theorem above_append (e : E) (a b : List E) : above e (a ++ b) = above e a ++ above e b := List.filter_append ..
theorem below_all {e : E} {l : List E} (h : ∀ x ∈ l, lt x e) : below e l = l := by
  unfold below; rw [List.filter_eq_self]; intro x hx; exact decide_eq_true (h x hx)
theorem below_none {e : E} {l : List E} (h : ∀ x ∈ l, lt e x ∨ x = e) : below e l = [] := by
  unfold below
  rw [List.filter_eq_nil_iff]
  intro x hx hd
  have h1 : lt x e := of_decide_eq_true hd
  rcases h x hx with h2 | h2
  · exact lt_asymm h1 h2
  · subst h2; exact lt_irrefl _ h1
theorem above_all {e : E} {l : List E} (h : ∀ x ∈ l, lt e x) : above e l = l := by
  unfold above; rw [List.filter_eq_self]; intro x hx; exact decide_eq_true (h x hx)
theorem above_none {e : E} {l : List E} (h : ∀ x ∈ l, lt x e ∨ x = e) : above e l = [] := by
  unfold above
  rw [List.filter_eq_nil_iff]
  intro x hx hd
  have h1 : lt e x := of_decide_eq_true hd
  rcases h x hx with h2 | h2
  · exact lt_asymm h1 h2
  · subst h2; exact lt_irrefl _ h1
theorem mem_below {e x : E} {l : List E} : x ∈ below e l ↔ x ∈ l ∧ lt x e := by simp [below]
theorem mem_above {e x : E} {l : List E} : x ∈ above e l ↔ x ∈ l ∧ lt e x := by simp [above]

theorem srt_split (e : E) : ∀ l, Srt l → l = below e l ++ ((if e ∈ l then [e] else []) ++ above e l)
  | [], _ => by simp [below, above]
  | x :: r, h => by
    have h1 : ∀ y ∈ r, lt x y := fun y hy => List.rel_of_pairwise_cons h hy
    have h2 : Srt r := List.Pairwise.of_cons h
    rcases lt_tri x e with p | p | p
    · have ih := srt_split e r h2
      have hb : below e (x :: r) = x :: below e r := by simp [below, p]
      have ha : above e (x :: r) = above e r := by simp [above, lt_asymm p]
      have hne : ¬ e = x := fun h => lt_irrefl e (h ▸ p)
      have hm : (e ∈ x :: r) = (e ∈ r) := by simp [hne]
      rw [hb, ha]
      simp only [hm]
      rw [List.cons_append, ← ih]
    · subst p
      have hb : below x (x :: r) = [] := below_none fun y hy => by
        rcases List.mem_cons.1 hy with h3 | h3
        · exact .inr h3
        · exact .inl (h1 y h3)
      have ha : above x (x :: r) = r := by
        have h3 := above_all h1
        unfold above at h3 ⊢
        rw [List.filter_cons_of_neg (by simpa using lt_irrefl x), h3]
      rw [hb, ha]; simp
    · have hall : ∀ y ∈ x :: r, lt e y := fun y hy => by
        rcases List.mem_cons.1 hy with h3 | h3
        · exact h3 ▸ p
        · exact lt_trans p (h1 y h3)
      have hb : below e (x :: r) = [] := below_none fun y hy => .inl (hall y hy)
      have ha := above_all hall
      have hm : e ∉ x :: r := fun h3 => lt_irrefl e (hall e h3)
      rw [hb, ha, if_neg hm]; rfl
theorem srt_not {e : E} {l : List E} (h : Srt l) (he : e ∉ l) : l = below e l ++ above e l := by
  have h1 := srt_split e l h
  rwa [if_neg he] at h1
theorem srt_mem {e : E} {l : List E} (h : Srt l) (he : e ∈ l) : l = below e l ++ e :: above e l := by
  have h1 := srt_split e l h
  rwa [if_pos he] at h1
theorem srt_ins {l : List E} (e : E) (h : Srt l) : Srt (ins e l) := by
  unfold ins
  refine List.pairwise_append.2 ⟨h.filter _, List.pairwise_cons.2 ⟨fun x hx => (mem_above.1 hx).2, h.filter _⟩, fun x hx y hy => ?_⟩
  have h1 := (mem_below.1 hx).2
  rcases List.mem_cons.1 hy with h2 | h2
  · exact h2 ▸ h1
  · exact lt_trans h1 (mem_above.1 h2).2
theorem srt_add {l : List E} (e : E) (h : Srt l) : Srt (add e l) := by
  unfold add; split
  · exact h
  · exact srt_ins e h
theorem srt_del {l : List E} (e : E) (h : Srt l) : Srt (del e l) := by
  unfold del
  exact List.pairwise_append.2 ⟨h.filter _, h.filter _, fun x hx y hy => lt_trans (mem_below.1 hx).2 (mem_above.1 hy).2⟩
theorem mem_add (e x : E) (l : List E) (h : Srt l) : x ∈ add e l ↔ x = e ∨ x ∈ l := by
  unfold add
  by_cases he : e ∈ l
  · rw [if_pos he]
    exact ⟨.inr, fun h1 => h1.elim (fun h2 => h2 ▸ he) id⟩
  · rw [if_neg he]
    unfold ins
    rw [List.mem_append, List.mem_cons, mem_below, mem_above]
    constructor
    · rintro (h1 | h1 | h1)
      · exact .inr h1.1
      · exact .inl h1
      · exact .inr h1.1
    · rintro (h1 | h1)
      · exact .inr (.inl h1)
      · rcases lt_tri x e with p | p | p
        · exact .inl ⟨h1, p⟩
        · exact .inr (.inl p)
        · exact .inr (.inr ⟨h1, p⟩)
theorem mem_del (e x : E) (l : List E) : x ∈ del e l ↔ x ≠ e ∧ x ∈ l := by
  unfold del
  rw [List.mem_append, mem_below, mem_above]
  constructor
  · rintro (h1 | h1)
    · exact ⟨fun h => lt_irrefl e (h ▸ h1.2), h1.1⟩
    · exact ⟨fun h => lt_irrefl e (h ▸ h1.2), h1.1⟩
  · rintro ⟨h1, h2⟩
    rcases lt_tri x e with p | p | p
    · exact .inl ⟨h2, p⟩
    · exact absurd p h1
    · exact .inr ⟨h2, p⟩
theorem del_not {e : E} {l : List E} (h : Srt l) (he : e ∉ l) : del e l = l := (srt_not h he).symm

/-- In the midst of a list. -/
theorem mid_add {e : E} {a m c : List E} (ha : ∀ x ∈ a, lt x e) (hc : ∀ x ∈ c, lt e x) : add e (a ++ m ++ c) = a ++ add e m ++ c := by
  have h1 : e ∉ a := fun h => lt_irrefl e (ha e h)
  have h2 : e ∉ c := fun h => lt_irrefl e (hc e h)
  have hm : (e ∈ a ++ m ++ c) = (e ∈ m) := by simp [h1, h2]
  unfold add ins
  simp only [hm]
  split
  · rfl
  · rw [below_append, below_append, above_append, above_append, below_all ha, above_all hc, below_none (fun x hx => .inl (hc x hx)), above_none (fun x hx => .inl (ha x hx))]
    simp
theorem mid_del {e : E} {a m c : List E} (ha : ∀ x ∈ a, lt x e) (hc : ∀ x ∈ c, lt e x) : del e (a ++ m ++ c) = a ++ del e m ++ c := by
  unfold del
  rw [below_append, below_append, above_append, above_append, below_all ha, above_all hc, below_none (fun x hx => .inl (hc x hx)), above_none (fun x hx => .inl (ha x hx))]
  simp
theorem mid_mem {e : E} {a m c : List E} (ha : ∀ x ∈ a, lt x e) (hc : ∀ x ∈ c, lt e x) : (e ∈ a ++ m ++ c) ↔ e ∈ m := by
  have h1 : e ∉ a := fun h => lt_irrefl e (ha e h)
  have h2 : e ∉ c := fun h => lt_irrefl e (hc e h)
  simp [h1, h2]

/-! ### Entries, and lists between them -/
def pre : List E → List (List E) → List E
  | x :: l, m :: ms => m ++ x :: pre l ms
  | _, _ => []
def post : List E → List (List E) → List E
  | x :: l, m :: ms => x :: (m ++ post l ms)
  | _, _ => []
def inter (l : List E) : List (List E) → List E
  | [] => l
  | m :: ms => m ++ post l ms
theorem post_cons (x : E) (l : List E) (ms : List (List E)) (h : ms ≠ []) : post (x :: l) ms = x :: inter l ms := by
  rcases ms with _ | ⟨m, ms⟩
  · exact absurd rfl h
  · rfl
theorem inter1 : ∀ (l1 : List E) (l2 : List E) (m1 : List (List E)) (A : List E) (m2 : List (List E)), m1.length = l1.length → inter (l1 ++ l2) (m1 ++ A :: m2) = pre l1 m1 ++ A ++ post l2 m2
  | [], l2, [], A, m2, _ => by simp [inter, pre]
  | x :: l1, l2, m :: m1, A, m2, h => by
    have ih := inter1 l1 l2 m1 A m2 (by simpa using h)
    show m ++ post (x :: (l1 ++ l2)) (m1 ++ A :: m2) = _
    rw [post_cons _ _ _ (by simp), ih]
    simp [pre]
  | [], _, _ :: _, _, _, h => by simp at h
  | _ :: _, _, [], _, _, h => by simp at h
theorem inter2 (l1 : List E) (x : E) (l2 : List E) (m1 : List (List E)) (A B : List E) (m2 : List (List E)) (h : m1.length = l1.length) :
    inter (l1 ++ x :: l2) (m1 ++ A :: B :: m2) = pre l1 m1 ++ (A ++ x :: B) ++ post l2 m2 := by
  rw [inter1 l1 (x :: l2) m1 A (B :: m2) h]
  simp [post]
/-- A list between others, cut at one of its entries. -/
theorem inter_cut : ∀ (la : List E) (x : E) (lb : List E) (ma mb : List (List E)), ma.length = la.length + 1 → mb ≠ [] → inter (la ++ x :: lb) (ma ++ mb) = inter la ma ++ x :: inter lb mb
  | [], x, lb, [a], mb, _, hb => by
    show a ++ post (x :: lb) mb = _
    rw [post_cons _ _ _ hb]; simp [inter, post]
  | y :: la, x, lb, a :: ma, mb, h, hb => by
    have ih := inter_cut la x lb ma mb (by simpa using h) hb
    have hne : ma ≠ [] := fun e => by rw [e] at h; simp at h
    show a ++ post (y :: (la ++ x :: lb)) (ma ++ mb) = a ++ post (y :: la) ma ++ _
    rw [post_cons _ _ _ (by simp [hne]), post_cons _ _ _ hne, ih]
    simp
  | [], _, _, [], _, h, _ => by simp at h
  | [], _, _, _ :: _ :: _, _, h, _ => by simp at h
  | _ :: _, _, _, [], _, h, _ => by simp at h
theorem inter_one (m : List E) : inter [] [m] = m := by simp [inter, post]
theorem pre_lt {e : E} : ∀ (l : List E) (ms : List (List E)), Srt (pre l ms) → (∀ x ∈ l, lt x e) → ∀ y ∈ pre l ms, lt y e
  | [], _, _, _, y, hy => by simp [pre] at hy
  | _ :: _, [], _, _, y, hy => by simp [pre] at hy
  | x :: l, m :: ms, hs, h, y, hy => by
    unfold pre at hs hy
    have hx : lt x e := h x (List.mem_cons_self ..)
    obtain ⟨h1, h2, h3⟩ := List.pairwise_append.1 hs
    rcases List.mem_append.1 hy with h4 | h4
    · exact lt_trans (h3 y h4 x (List.mem_cons_self ..)) hx
    · rcases List.mem_cons.1 h4 with h5 | h5
      · exact h5 ▸ hx
      · exact pre_lt l ms (List.Pairwise.of_cons h2) (fun x hx => h x (List.mem_cons_of_mem _ hx)) y h5
theorem post_gt {e : E} : ∀ (l : List E) (ms : List (List E)), Srt (post l ms) → (∀ x ∈ l, lt e x) → ∀ y ∈ post l ms, lt e y
  | [], _, _, _, y, hy => by simp [post] at hy
  | _ :: _, [], _, _, y, hy => by simp [post] at hy
  | x :: l, m :: ms, hs, h, y, hy => by
    unfold post at hs hy
    have hx : lt e x := h x (List.mem_cons_self ..)
    have h1 : ∀ z ∈ m ++ post l ms, lt x z := fun z hz => List.rel_of_pairwise_cons hs hz
    have h2 := List.Pairwise.of_cons hs
    rcases List.mem_cons.1 hy with h4 | h4
    · exact h4 ▸ hx
    · exact lt_trans hx (h1 y h4)

/-! ### Trees -/
inductive T where
  | node (a : Nat) (l : List E) (ks : List T)
def T.a : T → Nat
  | .node a _ _ => a
def T.l : T → List E
  | .node _ l _ => l
def T.ks : T → List T
  | .node _ _ ks => ks
theorem T.eta (t : T) : t = .node t.a t.l t.ks := by cases t; rfl

def ents : Nat → T → List E
  | 0, t => t.l
  | h + 1, t => inter t.l (t.ks.map (ents h))
def subs : Nat → T → List T
  | 0, t => [t]
  | h + 1, t => t :: (t.ks.map (subs h)).flatten
def addrs (h : Nat) (t : T) : List Nat := (subs h t).map T.a
/-- A node's kids are as many as they should, and as great; so are theirs. -/
def Good : Nat → T → Prop
  | 0, t => t.ks = []
  | h + 1, t => t.ks.length = t.l.length + 1 ∧ ∀ k ∈ t.ks, Good h k ∧ 2 ≤ k.l.length ∧ k.l.length ≤ 4

theorem subs_self (h : Nat) (t : T) : t ∈ subs h t := by cases h <;> simp [subs]
theorem subs_kid {h : Nat} {t k s : T} (hk : k ∈ t.ks) (hs : s ∈ subs h k) : s ∈ subs (h + 1) t := by
  simp only [subs, List.mem_cons, List.mem_flatten, List.mem_map]
  exact .inr ⟨_, ⟨k, hk, rfl⟩, hs⟩
theorem addrs_succ (h : Nat) (t : T) : addrs (h + 1) t = t.a :: (t.ks.map (addrs h)).flatten := by
  unfold addrs
  simp only [subs, List.map_cons, List.map_flatten, List.map_map]
  rfl
theorem addrs_self (h : Nat) (t : T) : t.a ∈ addrs h t := List.mem_map_of_mem (subs_self h t)
theorem addrs_kid {h : Nat} {t k : T} {x : Nat} (hk : k ∈ t.ks) (hx : x ∈ addrs h k) : x ∈ addrs (h + 1) t := by
  rw [addrs_succ]
  exact List.mem_cons_of_mem _ (List.mem_flatten.2 ⟨_, List.mem_map_of_mem hk, hx⟩)

/-- The tree with one of its kids put anew. -/
theorem ents_kid (h : Nat) (a : Nat) (l1 l2 : List E) (k1 k2 : List T) (s : T) (hl : k1.length = l1.length) :
    ents (h + 1) (.node a (l1 ++ l2) (k1 ++ s :: k2)) = pre l1 (k1.map (ents h)) ++ ents h s ++ post l2 (k2.map (ents h)) := by
  show inter (l1 ++ l2) ((k1 ++ s :: k2).map (ents h)) = _
  rw [List.map_append, List.map_cons, inter1 _ _ _ _ _ (by simpa using hl)]
theorem ents_kids (h : Nat) (a : Nat) (l1 : List E) (x : E) (l2 : List E) (k1 k2 : List T) (s t : T) (hl : k1.length = l1.length) :
    ents (h + 1) (.node a (l1 ++ x :: l2) (k1 ++ s :: t :: k2)) = pre l1 (k1.map (ents h)) ++ (ents h s ++ x :: ents h t) ++ post l2 (k2.map (ents h)) := by
  show inter (l1 ++ x :: l2) ((k1 ++ s :: t :: k2).map (ents h)) = _
  rw [List.map_append, List.map_cons, List.map_cons, inter2 _ _ _ _ _ _ _ (by simpa using hl)]

end Go.Proofs.Ytaoamkkgiiiejaa
