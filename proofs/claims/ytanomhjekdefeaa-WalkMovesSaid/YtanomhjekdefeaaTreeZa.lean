/- With, as a plain list tells it. -/
import Derived.Test.YtanomhjekdefeaaTreeZ
namespace Go.Proofs.Ytanomhjekdefeaa
set_option linter.unusedVariables false

structure Ws where
  o : List E
  was : Bool
  put : Bool
def wstep (e : E) (s : Ws) (x : E) : Ws :=
  if x = e then ⟨s.o, true, s.put⟩ else if !s.put && decide (lt e x) then ⟨s.o ++ [e] ++ [x], s.was, true⟩ else ⟨s.o ++ [x], s.was, s.put⟩
def wrun (e : E) (s : Ws) (l : List E) : Ws := l.foldl (wstep e) s
def wfin (e : E) (s : Ws) : List E := if s.put then s.o else s.o ++ [e]
theorem wrun_cons (e : E) (s : Ws) (x : E) (l : List E) : wrun e s (x :: l) = wrun e (wstep e s x) l := rfl
theorem wrun_succ (e : E) (s : Ws) (l : List E) (k : Nat) (hk : k < l.length) : wrun e s (l.take (k + 1)) = wstep e (wrun e s (l.take k)) (ge l k) := by
  unfold wrun
  rw [ge_take l k hk, List.foldl_append]
  rfl
theorem wrun_put (e : E) : ∀ (l : List E) (s : Ws), s.put = true → wrun e s l = ⟨s.o ++ l.filter (fun x => !decide (x = e)), s.was || decide (e ∈ l), true⟩
  | [], s, h => by rcases s with ⟨o, w, p⟩; simp only at h; subst h; simp [wrun]
  | x :: l, s, h => by
    rcases s with ⟨o, w, p⟩
    simp only at h
    subst h
    rw [wrun_cons]
    unfold wstep
    by_cases hx : x = e
    · rw [if_pos hx, wrun_put e l _ rfl]
      simp [hx]
    · rw [if_neg hx, wrun_put e l _ (by simp)]
      have hx' : ¬ e = x := fun h9 => hx h9.symm
      simp [hx, hx']
theorem filt_none {e : E} {l : List E} (h : ∀ x ∈ l, lt e x) : l.filter (fun x => !decide (x = e)) = l := by
  refine List.filter_eq_self.2 fun x hx => ?_
  have h1 := h x hx
  have h2 : ¬ x = e := fun h9 => by subst h9; exact lt_irrefl _ h1
  simp [h2]
theorem add_first {e : E} {l : List E} (h : ∀ x ∈ l, lt e x) : add e l = e :: l := by
  have he : e ∉ l := fun h9 => lt_irrefl e (h e h9)
  unfold add ins
  rw [if_neg he, above_all h, below_none fun x hx => .inl (h x hx)]
  rfl
theorem add_cons_mem {x : E} {l : List E} : add x (x :: l) = x :: l := by unfold add; rw [if_pos (List.mem_cons_self ..)]
theorem add_cons_lt {e x : E} {l : List E} (h : lt x e) : add e (x :: l) = x :: add e l := by
  have hne : ¬ e = x := fun h9 => by subst h9; exact lt_irrefl _ h
  unfold add
  by_cases he : e ∈ l
  · rw [if_pos he, if_pos (List.mem_cons_of_mem _ he)]
  · rw [if_neg he, if_neg (by simp [hne, he])]
    unfold ins below above
    rw [List.filter_cons_of_pos (by simpa using h), List.filter_cons_of_neg (by simpa using lt_asymm h)]
    rfl
theorem del_filt {e : E} : ∀ {l : List E}, Srt l → del e l = l.filter (fun x => !decide (x = e)) := by
  intro l h
  by_cases he : e ∈ l
  · have h1 := srt_mem h he
    conv => rhs; rw [h1]
    rw [List.filter_append, List.filter_cons_of_neg (by simp)]
    unfold del
    congr 1
    · exact (List.filter_eq_self.2 fun x hx => by
        have h2 := (mem_below.1 hx).2
        have h3 : ¬ x = e := fun h9 => by subst h9; exact lt_irrefl _ h2
        simp [h3]).symm
    · exact (filt_none fun x hx => (mem_above.1 hx).2).symm
  · rw [del_not h he]
    exact (List.filter_eq_self.2 fun x hx => by
      have h3 : ¬ x = e := fun h9 => by subst h9; exact he hx
      simp [h3]).symm
/-- All behind e: it comes ahead of them, whether it was seen or not. -/
theorem wrun_high (e : E) (l : List E) (o : List E) (w : Bool) (h : ∀ x ∈ l, lt e x) : wfin e (wrun e ⟨o, w, false⟩ l) = o ++ e :: l ∧ (wrun e ⟨o, w, false⟩ l).was = w := by
  cases l with
  | nil => simp [wrun, wfin]
  | cons y l =>
    have hy := h y (List.mem_cons_self ..)
    have hne : ¬ y = e := fun h9 => by subst h9; exact lt_irrefl _ hy
    rw [wrun_cons]
    have e1 : wstep e ⟨o, w, false⟩ y = ⟨o ++ [e] ++ [y], w, true⟩ := by unfold wstep; rw [if_neg hne]; simp [hy]
    have hm : e ∉ l := fun h9 => lt_irrefl e (h e (List.mem_cons_of_mem _ h9))
    rw [e1, wrun_put e l _ rfl, filt_none fun x hx => h x (List.mem_cons_of_mem _ hx)]
    simp [wfin, hm]
theorem wrun_in (e : E) : ∀ (l : List E) (o : List E) (w : Bool), Srt l → wfin e (wrun e ⟨o, w, false⟩ l) = o ++ add e l ∧ (wrun e ⟨o, w, false⟩ l).was = (w || decide (e ∈ l))
  | [], o, w, _ => by simp [wrun, wfin, add, ins, below, above]
  | x :: l, o, w, hs => by
    have hx : ∀ z ∈ l, lt x z := fun z hz => List.rel_of_pairwise_cons hs hz
    rcases lt_tri x e with h | h | h
    · have hne : ¬ x = e := fun h9 => by subst h9; exact lt_irrefl _ h
      have hne' : ¬ e = x := fun h9 => hne h9.symm
      have e1 : wstep e ⟨o, w, false⟩ x = ⟨o ++ [x], w, false⟩ := by unfold wstep; rw [if_neg hne]; simp [lt_asymm h]
      rw [wrun_cons, e1]
      obtain ⟨h1, h2⟩ := wrun_in e l (o ++ [x]) w (List.Pairwise.of_cons hs)
      rw [h1, h2, add_cons_lt h]
      simp [hne']
    · subst h
      have e1 : wstep x ⟨o, w, false⟩ x = ⟨o, true, false⟩ := by unfold wstep; rw [if_pos rfl]
      rw [wrun_cons, e1]
      obtain ⟨h1, h2⟩ := wrun_high x l o true hx
      rw [h1, h2, add_cons_mem]
      simp
    · have ha : ∀ z ∈ x :: l, lt e z := fun z hz => by
        rcases List.mem_cons.1 hz with h9 | h9
        · exact h9 ▸ h
        · exact lt_trans h (hx z h9)
      obtain ⟨h1, h2⟩ := wrun_high e (x :: l) o w ha
      rw [h1, h2, add_first ha]
      have hm : e ∉ x :: l := fun h9 => lt_irrefl e (ha e h9)
      simp only [decide_eq_false hm, Bool.or_false, and_self]
/-- What With says, of a row in order. -/
def withL (inn : Bool) (e : E) (l : List E) : List E := if inn then add e l else del e l
theorem with_pure (e : E) (inn : Bool) (l : List E) (hs : Srt l) : wfin e (wrun e ⟨[], false, !inn⟩ l) = withL inn e l ∧ (wrun e ⟨[], false, !inn⟩ l).was = decide (e ∈ l) := by
  cases inn with
  | true =>
    obtain ⟨h1, h2⟩ := wrun_in e l [] false hs
    exact ⟨h1, by rw [Bool.not_true, h2, Bool.false_or]⟩
  | false =>
    rw [Bool.not_false, wrun_put e l _ rfl]
    exact ⟨by simp [wfin, withL, del_filt hs], by simp⟩
theorem wrun_le (e : E) (s : Ws) (l : List E) : (wrun e s l).o.length ≤ s.o.length + l.length * 2 := by
  induction l generalizing s with
  | nil => simp [wrun]
  | cons x l ih =>
    rw [wrun_cons]
    have h := ih (wstep e s x)
    have h2 : (wstep e s x).o.length ≤ s.o.length + 2 := by
      unfold wstep
      split
      · simp
      · split <;> simp
    rw [List.length_cons]
    omega

end Go.Proofs.Ytanomhjekdefeaa
