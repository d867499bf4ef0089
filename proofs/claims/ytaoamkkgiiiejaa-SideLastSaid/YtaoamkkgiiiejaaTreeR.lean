/- What stands behind an entry, and ahead of it, and whether it is there: found by going down a tree. The plain law. -/
import Derived.Test.YtaoamkkgiiiejaaTreeP
namespace Go.Proofs.Ytaoamkkgiiiejaa
set_option linter.unusedVariables false

theorem ents_split2 {h : Nat} {s : T} (l1 l2 : List E) (hl : s.l = l1 ++ l2) (hg : Good (h + 1) s) :
    ∃ k1 c k2, s.ks = k1 ++ c :: k2 ∧ k1.length = l1.length ∧ k2.length = l2.length ∧ ents (h + 1) s = pre l1 (k1.map (ents h)) ++ ents h c ++ post l2 (k2.map (ents h)) ∧ Good h c ∧ c.l.length ≤ 4 := by
  obtain ⟨hk, hall⟩ := hg
  have hlt : l1.length < s.ks.length := by rw [hk, hl, List.length_append]; omega
  have hks : s.ks = s.ks.take l1.length ++ s.ks[l1.length] :: s.ks.drop (l1.length + 1) := by rw [← List.drop_eq_getElem_cons hlt, List.take_append_drop]
  have hkl : (s.ks.take l1.length).length = l1.length := by rw [List.length_take]; omega
  have he1 := ents_kid h s.a l1 l2 (s.ks.take l1.length) (s.ks.drop (l1.length + 1)) (s.ks[l1.length]) hkl
  rw [← hl, ← hks] at he1
  have hm := hall _ (List.getElem_mem hlt)
  refine ⟨_, _, _, hks, hkl, ?_, by rw [← he1]; cases s; rfl, hm.1, hm.2.2⟩
  rw [List.length_drop, hk, hl, List.length_append]; omega
theorem pre_le {e : E} : ∀ (l : List E) (ms : List (List E)), Srt (pre l ms) → (∀ x ∈ l, lt x e ∨ x = e) → ∀ y ∈ pre l ms, lt y e ∨ y = e
  | [], _, _, _, y, hy => by simp [pre] at hy
  | _ :: _, [], _, _, y, hy => by simp [pre] at hy
  | x :: l, m :: ms, hs, h, y, hy => by
    unfold pre at hs hy
    have hx := h x (List.mem_cons_self ..)
    obtain ⟨h1, h2, h3⟩ := List.pairwise_append.1 hs
    rcases List.mem_append.1 hy with h4 | h4
    · have h5 := h3 y h4 x (List.mem_cons_self ..)
      rcases hx with hx | hx
      · exact .inl (lt_trans h5 hx)
      · exact .inl (hx ▸ h5)
    · rcases List.mem_cons.1 h4 with h5 | h5
      · exact h5 ▸ hx
      · exact pre_le l ms (List.Pairwise.of_cons h2) (fun x hx => h x (List.mem_cons_of_mem _ hx)) y h5
theorem post_ge {e : E} : ∀ (l : List E) (ms : List (List E)), Srt (post l ms) → (∀ x ∈ l, lt e x ∨ x = e) → ∀ y ∈ post l ms, lt e y ∨ y = e
  | [], _, _, _, y, hy => by simp [post] at hy
  | _ :: _, [], _, _, y, hy => by simp [post] at hy
  | x :: l, m :: ms, hs, h, y, hy => by
    unfold post at hs hy
    have hx := h x (List.mem_cons_self ..)
    have h1 : ∀ z ∈ m ++ post l ms, lt x z := fun z hz => List.rel_of_pairwise_cons hs hz
    rcases List.mem_cons.1 hy with h4 | h4
    · exact h4 ▸ hx
    · rcases hx with hx | hx
      · exact .inl (lt_trans hx (h1 y h4))
      · exact .inl (hx ▸ h1 y h4)
theorem srt_app3 {a m c : List E} (h : Srt (a ++ m ++ c)) : Srt a ∧ Srt m ∧ Srt c := by
  obtain ⟨h1, h2, _⟩ := List.pairwise_append.1 h
  obtain ⟨h3, h4, _⟩ := List.pairwise_append.1 h1
  exact ⟨h3, h4, h2⟩

def zE : E := ⟨⟨#[]⟩, 0⟩
/-- The first of some, if there is one. -/
def hd : List E → E × Bool
  | [] => (zE, false)
  | x :: _ => (x, true)
def nxt (e : E) (l : List E) (st : E × Bool) : E × Bool := match above e l with
  | [] => st
  | x :: _ => (x, true)
/-- Where one is who looks for the entry behind e. -/
structure AfterAt (e : E) (L : List E) (h : Nat) (s : T) (st : E × Bool) : Prop where
  good : Good h s
  four : s.l.length ≤ 4
  srt : Srt L
  at_ : ∃ P Q, L = P ++ ents h s ++ Q ∧ (∀ x ∈ P, lt x e ∨ x = e) ∧ (∀ x ∈ Q, lt e x) ∧ st = hd Q
theorem AfterAt.sub {e : E} {L : List E} {h : Nat} {s : T} {st : E × Bool} (H : AfterAt e L h s st) : Srt (ents h s) := by
  obtain ⟨P, Q, hL, _⟩ := H.at_
  exact (srt_app3 (hL ▸ H.srt)).2.1
theorem after_leaf {e : E} {L : List E} {s : T} {st : E × Bool} (H : AfterAt e L 0 s st) : hd (above e L) = nxt e s.l st := by
  obtain ⟨P, Q, hL, hP, hQ, hst⟩ := H.at_
  rw [hL, above_append, above_append, above_none hP, above_all hQ, List.nil_append]
  unfold nxt
  show hd (above e s.l ++ Q) = _
  cases above e s.l with
  | nil => exact hst.symm
  | cons x r => rfl
theorem after_len {e : E} {l : List E} (hs : Srt l) : l.length = (below e l).length + (if e ∈ l then 1 else 0) + (above e l).length := by
  have h := congrArg List.length (srt_split e l hs)
  rw [List.length_append, List.length_append] at h
  rw [h]
  by_cases he : e ∈ l
  · rw [if_pos he, if_pos he]; simp; omega
  · rw [if_neg he, if_neg he]; simp
theorem after_step {e : E} {L : List E} {h : Nat} {s : T} {st : E × Bool} (H : AfterAt e L (h + 1) s st) :
    ∃ k1 c k2, s.ks = k1 ++ c :: k2 ∧ k1.length = (below e s.l).length + (if e ∈ s.l then 1 else 0) ∧ AfterAt e L h c (nxt e s.l st) := by
  obtain ⟨P, Q, hL, hP, hQ, hst⟩ := H.at_
  have hs := srt_top H.good H.sub
  have hsp := srt_split e s.l hs
  rw [← List.append_assoc] at hsp
  obtain ⟨k1, c, k2, h1, h2, h3, h4, h5, h6⟩ := ents_split2 _ _ hsp H.good
  refine ⟨k1, c, k2, h1, by rw [h2, List.length_append]; by_cases he : e ∈ s.l <;> simp [he], ⟨h5, h6, H.srt, P ++ pre (below e s.l ++ (if e ∈ s.l then [e] else [])) (k1.map (ents h)), post (above e s.l) (k2.map (ents h)) ++ Q, ?_, ?_, ?_, ?_⟩⟩
  · rw [hL, h4]; simp
  · intro x hx
    rcases List.mem_append.1 hx with h7 | h7
    · exact hP x h7
    · have hsub := H.sub
      rw [h4] at hsub
      refine pre_le _ _ (srt_app3 hsub).1 (fun y hy => ?_) x h7
      rcases List.mem_append.1 hy with h8 | h8
      · exact .inl (mem_below.1 h8).2
      · by_cases he : e ∈ s.l
        · rw [if_pos he] at h8; exact .inr (by simpa using h8)
        · rw [if_neg he] at h8; simp at h8
  · intro x hx
    rcases List.mem_append.1 hx with h7 | h7
    · have hsub := H.sub
      rw [h4] at hsub
      exact post_gt _ _ (srt_app3 hsub).2.2 (fun y hy => (mem_above.1 hy).2) x h7
    · exact hQ x h7
  · unfold nxt
    rcases ha : above e s.l with _ | ⟨x, r⟩
    · simp [post, hst]
    · rw [ha] at h3
      rcases k2 with _ | ⟨c2, k2⟩
      · simp at h3
      · rfl

/-- The last of some. -/
def tl (l : List E) : E × Bool := match l.getLast? with
  | none => (zE, false)
  | some x => (x, true)
def prv (e : E) (l : List E) (st : E × Bool) : E × Bool := match (below e l).getLast? with
  | none => st
  | some x => (x, true)
theorem tl_append (a b : List E) : tl (a ++ b) = match b.getLast? with | none => tl a | some x => (x, true) := by
  unfold tl
  rw [List.getLast?_append]
  cases b.getLast? <;> rfl
theorem pre_last : ∀ (l : List E) (ms : List (List E)), ms.length = l.length → (pre l ms).getLast? = l.getLast?
  | [], [], _ => rfl
  | [x], [m], _ => by simp [pre]
  | x :: y :: l, m :: m2 :: ms, h => by
    have ih := pre_last (y :: l) (m2 :: ms) (by simpa using h)
    have hne : pre (y :: l) (m2 :: ms) ≠ [] := by simp [pre]
    show (m ++ x :: pre (y :: l) (m2 :: ms)).getLast? = _
    rw [List.getLast?_append, List.getLast?_cons_of_ne_nil hne, ih, List.getLast?_cons_cons]
    cases h9 : (y :: l).getLast? with
    | none => simp at h9
    | some z => rfl
  | [], _ :: _, h => by simp at h
  | _ :: _, [], h => by simp at h
  | [_], _ :: _ :: _, h => by simp at h
  | _ :: _ :: _, [_], h => by simp at h
structure BeforeAt (e : E) (L : List E) (h : Nat) (s : T) (st : E × Bool) : Prop where
  good : Good h s
  four : s.l.length ≤ 4
  srt : Srt L
  at_ : ∃ P Q, L = P ++ ents h s ++ Q ∧ (∀ x ∈ P, lt x e) ∧ (∀ x ∈ Q, lt e x ∨ x = e) ∧ st = tl P
theorem BeforeAt.sub {e : E} {L : List E} {h : Nat} {s : T} {st : E × Bool} (H : BeforeAt e L h s st) : Srt (ents h s) := by
  obtain ⟨P, Q, hL, _⟩ := H.at_
  exact (srt_app3 (hL ▸ H.srt)).2.1
theorem before_leaf {e : E} {L : List E} {s : T} {st : E × Bool} (H : BeforeAt e L 0 s st) : tl (below e L) = prv e s.l st := by
  obtain ⟨P, Q, hL, hP, hQ, hst⟩ := H.at_
  rw [hL, below_append, below_append, below_all hP, below_none hQ, List.append_nil, tl_append]
  unfold prv
  show (match (below e s.l).getLast? with | none => tl P | some x => (x, true)) = _
  rw [hst]
theorem before_step {e : E} {L : List E} {h : Nat} {s : T} {st : E × Bool} (H : BeforeAt e L (h + 1) s st) :
    ∃ k1 c k2, s.ks = k1 ++ c :: k2 ∧ k1.length = (below e s.l).length ∧ BeforeAt e L h c (prv e s.l st) := by
  obtain ⟨P, Q, hL, hP, hQ, hst⟩ := H.at_
  have hs := srt_top H.good H.sub
  obtain ⟨k1, c, k2, h1, h2, h3, h4, h5, h6⟩ := ents_split2 _ _ (srt_split e s.l hs) H.good
  refine ⟨k1, c, k2, h1, h2, ⟨h5, h6, H.srt, P ++ pre (below e s.l) (k1.map (ents h)), post ((if e ∈ s.l then [e] else []) ++ above e s.l) (k2.map (ents h)) ++ Q, ?_, ?_, ?_, ?_⟩⟩
  · rw [hL, h4]; simp
  · intro x hx
    rcases List.mem_append.1 hx with h7 | h7
    · exact hP x h7
    · have hsub := H.sub
      rw [h4] at hsub
      exact pre_lt _ _ (srt_app3 hsub).1 (fun y hy => (mem_below.1 hy).2) x h7
  · intro x hx
    rcases List.mem_append.1 hx with h7 | h7
    · have hsub := H.sub
      rw [h4] at hsub
      refine post_ge _ _ (srt_app3 hsub).2.2 (fun y hy => ?_) x h7
      rcases List.mem_append.1 hy with h8 | h8
      · by_cases he : e ∈ s.l
        · rw [if_pos he] at h8; exact .inr (by simpa using h8)
        · rw [if_neg he] at h8; simp at h8
      · exact .inl (mem_above.1 h8).2
    · exact hQ x h7
  · rw [tl_append, pre_last _ _ (by simpa using h2)]
    unfold prv
    rw [hst]

structure HasAt (e : E) (L : List E) (h : Nat) (s : T) : Prop where
  good : Good h s
  four : s.l.length ≤ 4
  srt : Srt L
  at_ : ∃ P Q, L = P ++ ents h s ++ Q ∧ (∀ x ∈ P, lt x e) ∧ (∀ x ∈ Q, lt e x)
theorem HasAt.sub {e : E} {L : List E} {h : Nat} {s : T} (H : HasAt e L h s) : Srt (ents h s) := by
  obtain ⟨P, Q, hL, _⟩ := H.at_
  exact (srt_app3 (hL ▸ H.srt)).2.1
theorem HasAt.iff {e : E} {L : List E} {h : Nat} {s : T} (H : HasAt e L h s) : e ∈ L ↔ e ∈ ents h s := by
  obtain ⟨P, Q, hL, hP, hQ⟩ := H.at_
  rw [hL]; exact mid_mem hP hQ
theorem has_step {e : E} {L : List E} {h : Nat} {s : T} (H : HasAt e L (h + 1) s) (he : e ∉ s.l) :
    ∃ k1 c k2, s.ks = k1 ++ c :: k2 ∧ k1.length = (below e s.l).length ∧ HasAt e L h c := by
  obtain ⟨P, Q, hL, hP, hQ⟩ := H.at_
  have hs := srt_top H.good H.sub
  obtain ⟨k1, c, k2, h1, h2, h3, h4, h5, h6⟩ := ents_split2 _ _ (srt_not hs he) H.good
  have hsub := H.sub
  rw [h4] at hsub
  refine ⟨k1, c, k2, h1, h2, ⟨h5, h6, H.srt, P ++ pre (below e s.l) (k1.map (ents h)), post (above e s.l) (k2.map (ents h)) ++ Q, by rw [hL, h4]; simp, fun x hx => ?_, fun x hx => ?_⟩⟩
  · rcases List.mem_append.1 hx with h7 | h7
    · exact hP x h7
    · exact pre_lt _ _ (srt_app3 hsub).1 (fun y hy => (mem_below.1 hy).2) x h7
  · rcases List.mem_append.1 hx with h7 | h7
    · exact post_gt _ _ (srt_app3 hsub).2.2 (fun y hy => (mem_above.1 hy).2) x h7
    · exact hQ x h7

end Go.Proofs.Ytaoamkkgiiiejaa
