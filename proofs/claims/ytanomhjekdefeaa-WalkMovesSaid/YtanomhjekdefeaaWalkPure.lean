/- What comes next in a part of a sorted list: the walk's way and the law's are one. Plain lists. -/
import Derived.Test.YtanomhjekdefeaaTreeR
namespace Go.Proofs.Ytanomhjekdefeaa
set_option linter.unusedVariables false

structure Rg where
  f : ByteArray
  t : ByteArray
  dn : Bool
structure Mk where
  e : E
  b : Bool
  deriving DecidableEq
def kc (a b : ByteArray) : Int := cb a.data.toList b.data.toList
def nil0 : ByteArray := ⟨#[]⟩
/-- A key stands ahead of a range's end. -/
def ahead (e : E) (k : ByteArray) : Bool := decide (k = nil0) || decide (kc e.key k < 0)
def behindK (e : E) (k : ByteArray) : Bool := !decide (kc e.key k < 0)
def inR (e : E) (r : Rg) : Bool := behindK e r.f && ahead e r.t
def low (k : ByteArray) : E := ⟨k, -9223372036854775808⟩
def fromE (L : List E) (k : ByteArray) : E × Bool := if low k ∈ L then (low k, true) else hd (above (low k) L)
def upE (L : List E) (r : Rg) (m : Mk) : E × Bool :=
  if m.b = true ∧ ((hd (above m.e L)).2 = false ∨ behindK (hd (above m.e L)).1 r.f = true) then hd (above m.e L) else fromE L r.f
def lastE (L : List E) (m : Mk) : E × Bool := if m.b = true then tl (below m.e L) else tl L
def dnE (L : List E) (r : Rg) (m : Mk) : E × Bool :=
  if (lastE L m).2 = true ∧ ahead (lastE L m).1 r.t = false then tl (below (low r.t) L) else lastE L m
def stepE (L : List E) (r : Rg) (m : Mk) : E × Bool := if r.dn = true then dnE L r m else upE L r m
def nextE (L : List E) (r : Rg) (m : Mk) : E × Bool := if (stepE L r m).2 = true ∧ inR (stepE L r m).1 r = true then ((stepE L r m).1, true) else (zE, false)
/-- The mark behind a step. -/
def mkOf (m : Mk) (x : E × Bool) : Mk := if x.2 = true then ⟨x.1, true⟩ else m

def fz : Option E → E × Bool
  | none => (zE, false)
  | some x => (x, true)
def pastE (r : Rg) (m : Mk) (e : E) : Bool := !m.b || (if r.dn = true then decide (lt e m.e) else decide (lt m.e e))
def rowE (L : List E) (r : Rg) : List E := if r.dn = true then L.reverse else L
def lawN (L : List E) (r : Rg) (m : Mk) : E × Bool := fz ((rowE L r).find? fun e => pastE r m e && inR e r)

theorem fz_hd (l : List E) : hd l = fz l.head? := by cases l <;> rfl
theorem fz_tl (l : List E) : tl l = fz l.getLast? := by unfold tl fz; cases l.getLast? <;> rfl
theorem hd_filter (p : E → Bool) (l : List E) : hd (l.filter p) = fz (l.find? p) := by rw [fz_hd, List.head?_filter]
theorem tl_filter (p : E → Bool) (l : List E) : tl (l.filter p) = fz (l.reverse.find? p) := by
  rw [fz_tl, ← List.head?_filter, List.filter_reverse, List.head?_reverse]

section
variable {R : E → E → Prop} {p q u : E → Bool}
theorem find_two (hp : ∀ a b, R a b → p a = true → p b = true) (hq : ∀ a b, R a b → q a = true → q b = true) :
    ∀ l : List E, l.Pairwise R → l.find? (fun e => p e && q e) = match l.find? p with | none => none | some x => if q x = true then some x else l.find? q
  | [], _ => rfl
  | a :: r, h => by
    obtain ⟨h1, h2⟩ := List.pairwise_cons.1 h
    have ih := find_two hp hq r h2
    rw [List.find?_cons, List.find?_cons (p := p), List.find?_cons (p := q)]
    cases hpa : p a <;> cases hqa : q a <;> simp only [Bool.and_true, Bool.and_false, Bool.false_and, Bool.true_and]
    · exact ih
    · rw [ih]
      rcases hx : r.find? p with _ | x
      · rfl
      · have hxr := List.mem_of_find?_eq_some hx
        simp only
        rw [if_pos (hq a x (h1 x hxr) hqa), if_pos (hq a x (h1 x hxr) hqa)]
    · have he : ∀ x ∈ r, (p x && q x) = q x := fun x hx => by rw [hp a x (h1 x hx) hpa, Bool.true_and]
      have h3 : ∀ l : List E, (∀ x ∈ l, (p x && q x) = q x) → l.find? (fun e => p e && q e) = l.find? q := by
        intro l
        induction l with
        | nil => intro _; rfl
        | cons y l ih2 =>
          intro hy
          rw [List.find?_cons, List.find?_cons, hy y (by simp), ih2 fun x hx => hy x (by simp [hx])]
      rw [h3 r he]
      simp [hqa]
    · simp [hqa]
theorem find_end (hu : ∀ a b, R a b → u b = true → u a = true) :
    ∀ l : List E, l.Pairwise R → l.find? (fun e => p e && u e) = match l.find? p with | none => none | some x => if u x = true then some x else none
  | [], _ => rfl
  | a :: r, h => by
    obtain ⟨h1, h2⟩ := List.pairwise_cons.1 h
    have ih := find_end hu r h2
    rw [List.find?_cons, List.find?_cons (p := p)]
    cases hpa : p a <;> cases hua : u a <;> simp only [Bool.and_true, Bool.and_false, Bool.false_and, Bool.true_and, hua, if_true, if_false, Bool.false_eq_true]
    · exact ih
    · exact ih
    · rw [List.find?_eq_none]
      intro x hx hb
      simp only [Bool.and_eq_true] at hb
      have := hu a x (h1 x hx) hb.2
      rw [hua] at this
      cases this
end

theorem lt_keys {a b : E} (h : lt a b) : a.key = b.key ∨ kc a.key b.key < 0 := by
  unfold lt cmpE at h
  by_cases h0 : kcmp a b = 0
  · exact .inl (kcmp_key h0)
  · rw [if_neg h0] at h
    exact .inr h
theorem lt_of_key {a b : E} (h : kc a.key b.key < 0) : lt a b := by
  unfold lt cmpE
  have h1 : kcmp a b = kc a.key b.key := rfl
  rw [if_neg (by omega), h1]
  exact h
theorem kc_self (k : ByteArray) : kc k k = 0 := cb_self _
theorem behind_up {k : ByteArray} (a b : E) (h : lt a b) (ha : behindK a k = true) : behindK b k = true := by
  unfold behindK at ha ⊢
  simp only [Bool.not_eq_true', decide_eq_false_iff_not] at ha ⊢
  intro hb
  rcases lt_keys h with h1 | h1
  · rw [h1] at ha; exact ha hb
  · exact ha (cb_trans _ _ _ h1 hb)
theorem ahead_down {k : ByteArray} (a b : E) (h : lt a b) (hb : ahead b k = true) : ahead a k = true := by
  unfold ahead at hb ⊢
  simp only [Bool.or_eq_true, decide_eq_true_eq] at hb ⊢
  refine hb.imp id fun h2 => ?_
  rcases lt_keys h with h1 | h1
  · rw [h1]; exact h2
  · exact cb_trans _ _ _ h1 h2
/-- Ids that an int64 holds. -/
def Low (L : List E) : Prop := ∀ x ∈ L, -9223372036854775808 ≤ x.id
theorem lt_low {x : E} (k : ByteArray) (hx : -9223372036854775808 ≤ x.id) : lt x (low k) ↔ kc x.key k < 0 := by
  constructor
  · intro h
    rcases lt_keys h with h1 | h1
    · exfalso
      have h2 : kcmp x (low k) = 0 := by show cb x.key.data.toList (low k).key.data.toList = 0; rw [h1]; exact cb_self _
      unfold lt cmpE at h
      rw [if_pos h2] at h
      unfold sgn low at h
      simp only at h
      split at h
      · omega
      · split at h <;> omega
    · exact h1
  · exact fun h => lt_of_key (b := low k) h
theorem find_all {p q : E → Bool} : ∀ {l : List E}, (∀ x ∈ l, p x = q x) → l.find? p = l.find? q
  | [], _ => rfl
  | y :: l, h => by rw [List.find?_cons, List.find?_cons, h y (by simp), find_all fun x hx => h x (by simp [hx])]
theorem from_eq {L : List E} (hs : Srt L) (hl : Low L) (k : ByteArray) : fromE L k = fz (L.find? fun e => behindK e k) := by
  have hb : ∀ x ∈ L, behindK x k = !decide (lt x (low k)) := fun x hx => by
    unfold behindK
    rw [decide_eq_decide.2 (lt_low k (hl x hx))]
  unfold fromE
  by_cases h : low k ∈ L
  · rw [if_pos h]
    have h2 := srt_mem hs h
    have h3 : L.find? (fun e => behindK e k) = some (low k) := by
      have h4 : ∀ M : List E, M = below (low k) L ++ low k :: above (low k) L → M.find? (fun e => behindK e k) = some (low k) := by
        intro M hM
        rw [hM, List.find?_append]
        have h5 : (below (low k) L).find? (fun e => behindK e k) = none := by
          rw [List.find?_eq_none]
          intro x hx hb2
          have h6 := mem_below.1 hx
          rw [hb x h6.1, decide_eq_true h6.2] at hb2
          cases hb2
        have h7 : behindK (low k) k = true := by
          unfold behindK low
          simp only
          rw [kc_self]
          rfl
        rw [h5, List.find?_cons, h7]
        rfl
      exact h4 L h2
    rw [h3]
    rfl
  · rw [if_neg h]
    unfold above
    rw [hd_filter]
    refine congrArg fz (find_all fun x hx => ?_)
    rw [hb x hx]
    by_cases h1 : lt x (low k)
    · rw [decide_eq_true h1, decide_eq_false (lt_asymm h1)]
      rfl
    · have h2 : lt (low k) x := lt_of_ne h1 fun e => h (e ▸ hx)
      rw [decide_eq_false h1, decide_eq_true h2]
      rfl
theorem below_low {L : List E} (hl : Low L) (k : ByteArray) (hk : k ≠ nil0) : tl (below (low k) L) = fz (L.reverse.find? fun e => ahead e k) := by
  unfold below
  rw [tl_filter]
  refine congrArg fz (find_all fun x hx => ?_)
  unfold ahead
  rw [decide_eq_false hk, Bool.false_or]
  exact decide_eq_decide.2 (lt_low k (hl x (List.mem_reverse.1 hx)))

def upP (m : Mk) (e : E) : Bool := !m.b || decide (lt m.e e)
def dnP (m : Mk) (e : E) : Bool := !m.b || decide (lt e m.e)
theorem up_eq {L : List E} (hs : Srt L) (hl : Low L) (r : Rg) (m : Mk) : upE L r m = fz (L.find? fun e => upP m e && behindK e r.f) := by
  unfold upE
  rw [from_eq hs hl]
  cases hb : m.b with
  | false =>
    rw [if_neg (by simp)]
    refine congrArg fz (find_all fun x hx => ?_)
    unfold upP
    rw [hb]
    simp
  | true =>
    have hP : upP m = fun e => decide (lt m.e e) := by funext e; unfold upP; rw [hb]; rfl
    rw [find_two (R := lt) (p := upP m) (q := fun e => behindK e r.f) ?_ (fun a b => behind_up a b) L hs, hP]
    · unfold above
      rw [hd_filter]
      rcases L.find? (fun e => decide (lt m.e e)) with _ | x
      · simp [fz]
      · cases hx : behindK x r.f <;> simp [fz, hx]
    · intro a b hab ha
      rw [hP] at ha ⊢
      simp only [decide_eq_true_eq] at ha ⊢
      exact lt_trans ha hab
theorem last_eq (L : List E) (m : Mk) : lastE L m = fz (L.reverse.find? (dnP m)) := by
  unfold lastE
  cases hb : m.b with
  | false =>
    have hP : dnP m = fun e => true := by funext e; unfold dnP; rw [hb]; rfl
    rw [if_neg (by simp), hP, fz_tl, ← List.head?_reverse]
    cases L.reverse <;> rfl
  | true =>
    have hP : dnP m = fun e => decide (lt e m.e) := by funext e; unfold dnP; rw [hb]; rfl
    rw [if_pos rfl, hP]
    unfold below
    rw [tl_filter]
theorem dn_eq {L : List E} (hs : Srt L) (hl : Low L) (r : Rg) (m : Mk) : dnE L r m = fz (L.reverse.find? fun e => dnP m e && ahead e r.t) := by
  have hR : L.reverse.Pairwise (fun a b => lt b a) := List.pairwise_reverse.2 hs
  unfold dnE
  rw [last_eq, find_two (R := fun a b => lt b a) (p := dnP m) (q := fun e => ahead e r.t) ?_ (fun a b h => ahead_down b a h) _ hR]
  · rcases hx : L.reverse.find? (dnP m) with _ | x
    · simp [fz]
    · simp only [fz, true_and]
      cases hq : ahead x r.t with
      | true => simp
      | false =>
        have hk : r.t ≠ nil0 := fun h => by unfold ahead at hq; rw [h] at hq; simp at hq
        rw [if_pos rfl, below_low hl _ hk]
        simp [fz]
  · intro a b hab ha
    unfold dnP at ha ⊢
    simp only [Bool.or_eq_true, decide_eq_true_eq] at ha ⊢
    exact ha.imp id fun h => lt_trans hab h

/-- THE WALK'S NEXT IS THE LAW'S. -/
theorem next_eq {L : List E} (hs : Srt L) (hl : Low L) (r : Rg) (m : Mk) : nextE L r m = lawN L r m := by
  unfold nextE lawN stepE
  cases hd : r.dn with
  | false =>
    have hrow : rowE L r = L := by unfold rowE; rw [hd]; rfl
    have hp : (fun e => pastE r m e && inR e r) = fun e => (upP m e && behindK e r.f) && ahead e r.t := by
      funext e
      unfold pastE upP inR
      rw [hd]
      simp only [Bool.false_eq_true, if_false, Bool.and_assoc]
    rw [hrow, hp, find_end (R := lt) (p := fun e => upP m e && behindK e r.f) (u := fun e => ahead e r.t) (fun a b => ahead_down a b) L hs]
    simp only [Bool.false_eq_true, if_false]
    rw [up_eq hs hl]
    rcases hx : L.find? (fun e => upP m e && behindK e r.f) with _ | x
    · simp [fz]
    · have h1 := List.find?_some hx
      simp only [Bool.and_eq_true] at h1
      simp only [fz, true_and]
      unfold inR
      rw [h1.2, Bool.true_and]
      cases ahead x r.t <;> simp
  | true =>
    have hrow : rowE L r = L.reverse := by unfold rowE; rw [hd]; rfl
    have hp : (fun e => pastE r m e && inR e r) = fun e => (dnP m e && ahead e r.t) && behindK e r.f := by
      funext e
      unfold pastE dnP inR
      rw [hd]
      simp only [if_true, Bool.and_assoc, Bool.and_comm (behindK e r.f)]
    rw [hrow, hp, find_end (R := fun a b => lt b a) (p := fun e => dnP m e && ahead e r.t) (u := fun e => behindK e r.f) (fun a b h => behind_up b a h) _ (List.pairwise_reverse.2 hs)]
    simp only [if_true]
    rw [dn_eq hs hl]
    rcases hx : L.reverse.find? (fun e => dnP m e && ahead e r.t) with _ | x
    · simp [fz]
    · have h1 := List.find?_some hx
      simp only [Bool.and_eq_true] at h1
      simp only [fz, true_and]
      unfold inR
      rw [h1.2, Bool.and_true]
      cases behindK x r.f <;> simp

end Go.Proofs.Ytanomhjekdefeaa
