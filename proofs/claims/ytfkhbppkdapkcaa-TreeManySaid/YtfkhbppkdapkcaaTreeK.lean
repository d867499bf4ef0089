/- How many nodes, how many entries: the plain law of shapes. -/
import Derived.Test.YtfkhbppkdapkcaaTreeY
namespace Go.Proofs.Ytfkhbppkdapkcaa
set_option linter.unusedVariables false

def total (h : Nat) (ks : List T) : Nat := (ks.map fun k => (ents h k).length).sum
theorem post_length : ∀ (l : List E) (ms : List (List E)), ms.length = l.length → (post l ms).length = l.length + (ms.map List.length).sum
  | [], [], _ => rfl
  | x :: l, m :: ms, h => by
    have ih := post_length l ms (by simpa using h)
    show (x :: (m ++ post l ms)).length = _
    simp only [List.length_cons, List.length_append, List.map_cons, List.sum_cons, ih]
    omega
  | [], _ :: _, h => by simp at h
  | _ :: _, [], h => by simp at h
theorem ents_length {h : Nat} {s : T} (hg : Good (h + 1) s) : (ents (h + 1) s).length = s.l.length + total h s.ks := by
  have hk := hg.1
  show (inter s.l (s.ks.map (ents h))).length = _
  rcases hks : s.ks with _ | ⟨c, k2⟩
  · rw [hks] at hk; simp at hk
  · rw [hks] at hk
    show (ents h c ++ post s.l (k2.map (ents h))).length = _
    rw [List.length_append, post_length _ _ (by simpa using hk)]
    unfold total
    simp only [List.map_cons, List.sum_cons, List.map_map]
    have e : (List.length ∘ ents h) = fun k => (ents h k).length := rfl
    rw [e]
    omega
theorem sum_le {α : Type} (f g : α → Nat) : ∀ (l : List α), (∀ x ∈ l, f x ≤ g x) → (l.map f).sum ≤ (l.map g).sum
  | [], _ => Nat.le_refl _
  | x :: l, h => by
    have h1 := h x (List.mem_cons_self ..)
    have h2 := sum_le f g l fun y hy => h y (List.mem_cons_of_mem _ hy)
    simp only [List.map_cons, List.sum_cons]
    omega
theorem flat_length {α β : Type} (f : α → List β) (l : List α) : ((l.map f).flatten).length = (l.map fun x => (f x).length).sum := by
  induction l with
  | nil => rfl
  | cons x l ih => simp only [List.map_cons, List.flatten_cons, List.length_append, List.sum_cons, ih]
theorem nodes_le : ∀ (h : Nat) (s : T) (d : Nat), Good h s → 1 ≤ s.l.length → (nodesOf h s d).length ≤ (ents h s).length
  | 0, s, d, hg, h1 => h1
  | h + 1, s, d, hg, h1 => by
    rw [ents_length hg]
    show ((s.ks.map fun k => nodesOf h k (d + 1)).flatten).length + 1 ≤ _
    rw [flat_length]
    have := sum_le (fun k => (nodesOf h k (d + 1)).length) (fun k => (ents h k).length) s.ks fun k hk => nodes_le h k (d + 1) (hg.2 k hk).1 (by have := (hg.2 k hk).2.1; omega)
    unfold total
    omega
theorem nodes_le' (h : Nat) (s : T) (d : Nat) (hg : Good h s) : (nodesOf h s d).length ≤ (ents h s).length + 1 := by
  cases h with
  | zero => simp [nodesOf]
  | succ h =>
    rw [ents_length hg]
    show ((s.ks.map fun k => nodesOf h k (d + 1)).flatten).length + 1 ≤ _
    rw [flat_length]
    have := sum_le (fun k => (nodesOf h k (d + 1)).length) (fun k => (ents h k).length) s.ks fun k hk => nodes_le h k (d + 1) (hg.2 k hk).1 (by have := (hg.2 k hk).2.1; omega)
    unfold total
    omega
theorem sum_ge {α : Type} (f : α → Nat) (c : Nat) : ∀ (l : List α), (∀ x ∈ l, c ≤ f x) → c * l.length ≤ (l.map f).sum
  | [], _ => by simp
  | x :: l, h => by
    have h1 := h x (List.mem_cons_self ..)
    have h2 := sum_ge f c l fun y hy => h y (List.mem_cons_of_mem _ hy)
    simp only [List.map_cons, List.sum_cons, List.length_cons, Nat.mul_succ]
    omega
theorem top_le {h : Nat} {s : T} (hg : Good h s) : s.l.length ≤ (ents h s).length := by
  cases h with
  | zero => exact Nat.le_refl _
  | succ h => rw [ents_length hg]; omega
theorem height_le : ∀ (h : Nat) (s : T), Good h s → 1 ≤ s.l.length → h < (ents h s).length
  | 0, s, hg, h1 => h1
  | h + 1, s, hg, h1 => by
    rw [ents_length hg]
    have hk := hg.1
    rcases hks : s.ks with _ | ⟨c, k2⟩
    · rw [hks] at hk; simp at hk
    · have hc := hg.2 c (by rw [hks]; simp)
      have := height_le h c hc.1 (by omega)
      unfold total
      simp only [List.map_cons, List.sum_cons]
      omega

/-- Five entries stand in three nodes. -/
theorem five {h : Nat} {s : T} (hg : Good h s) (h4 : s.l.length ≤ 4) (h1 : h ≠ 0 → 1 ≤ s.l.length) (h5 : (ents h s).length = 5) : nodesOf h s 1 = [⟨1, 1, false⟩, ⟨2, 2, true⟩, ⟨2, 2, true⟩] := by
  cases h with
  | zero => have : (ents 0 s).length = s.l.length := rfl; omega
  | succ h =>
    have hl := h1 (by omega)
    have he := ents_length hg
    have hk := hg.1
    have hge := sum_ge (fun k => (ents h k).length) 2 s.ks fun k hk' => Nat.le_trans (hg.2 k hk').2.1 (top_le (hg.2 k hk').1)
    unfold total at he
    have hl1 : s.l.length = 1 := by omega
    rw [hl1] at hk
    match hks : s.ks, hk with
    | [a, b], _ =>
      have ha := hg.2 a (by rw [hks]; simp)
      have hb := hg.2 b (by rw [hks]; simp)
      rw [hks] at he
      simp only [List.map_cons, List.map_nil, List.sum_cons, List.sum_nil] at he
      have ta := top_le ha.1
      have tb := top_le hb.1
      cases h with
      | zero =>
        have ea : (ents 0 a).length = a.l.length := rfl
        have eb : (ents 0 b).length = b.l.length := rfl
        have qa : a.l.length = 2 := by omega
        have qb : b.l.length = 2 := by omega
        simp [nodesOf, hks, hl1, qa, qb]
      | succ h =>
        exfalso
        have h6 := ents_length ha.1
        have h7 := ha.1.1
        have h8 := sum_ge (fun k => (ents h k).length) 2 a.ks fun k hk' => Nat.le_trans (ha.1.2 k hk').2.1 (top_le (ha.1.2 k hk').1)
        unfold total at h6
        omega
    | [], hk => simp at hk
    | [_], hk => simp at hk
    | _ :: _ :: _ :: _, hk => simp at hk

end Go.Proofs.Ytfkhbppkdapkcaa
