/- A tree, one of whose kids has been put anew; one of whose kids has been parted. -/
import Derived.Test.YtaoamkkgiiiejaaTreeP
namespace Go.Proofs.Ytaoamkkgiiiejaa
open Go.RowKit
set_option linter.unusedVariables false

theorem Tr.swap {h a : Nat} {l : List E} {k1 k2 : List T} {s s' : T} {w w2 : World} {ω ω2 : Ow} (ht : Tr (h + 1) w ω (.node a l (k1 ++ s :: k2))) (S2 : Stp (· ∈ addrs h s) w ω w2 ω2) (T2 : Tr h w2 ω2 s') (hA : ∀ x ∈ addrs h s', x ∈ addrs h s ∨ w.heap.size ≤ x) (hsa : s'.a = s.a) :
    Tr (h + 1) w2 ω2 (.node a l (k1 ++ s' :: k2)) ∧ Stp (· ∈ addrs (h + 1) (.node a l (k1 ++ s :: k2))) w ω w2 ω2 ∧ ∀ x ∈ addrs (h + 1) (.node a l (k1 ++ s' :: k2)), x ∈ addrs (h + 1) (.node a l (k1 ++ s :: k2)) ∨ w.heap.size ≤ x := by
  obtain ⟨tk, d1, d2, d3⟩ := ht.kid
  have hn := ht.nodup
  rw [addrs_node, F_append, F_cons] at hn
  refine ⟨Tr.mk' ?_ ?_ ?_, S2.wider fun x hx => addrs_kid (t := .node a l (k1 ++ s :: k2)) (k := s) (by show s ∈ k1 ++ s :: k2; simp) hx, fun x hx => ?_⟩
  · have h1 := ht.top.kept S2 d3
    have e : (k1 ++ s' :: k2).map T.a = (k1 ++ s :: k2).map T.a := by simp [hsa]
    rw [e]
    exact h1
  · intro k hk q hq
    rcases List.mem_append.1 hk with h1 | h1
    · exact (ht.laid q (subs_kid (t := .node a l (k1 ++ s :: k2)) (k := k) (List.mem_append_left _ h1) hq)).kept S2 (d1 q.a (mem_F.2 ⟨k, h1, List.mem_map_of_mem hq⟩))
    · rcases List.mem_cons.1 h1 with h2 | h2
      · subst h2
        exact T2.laid q hq
      · exact (ht.laid q (subs_kid (t := .node a l (k1 ++ s :: k2)) (k := k) (List.mem_append_right _ (List.mem_cons_of_mem _ h2)) hq)).kept S2 (d2 q.a (mem_F.2 ⟨k, h2, List.mem_map_of_mem hq⟩))
  · rw [F_append, F_cons]
    refine nodup_swap hn T2.nodup hA fun x hx => ht.lt ?_
    rw [addrs_node, F_append, F_cons]; exact hx
  · rw [addrs_node, F_append, F_cons] at hx ⊢
    rcases List.mem_cons.1 hx with h1 | h1
    · exact .inl (by rw [h1]; exact List.mem_cons_self ..)
    · rcases List.mem_append.1 h1 with h2 | h2
      · exact .inl (List.mem_cons_of_mem _ (List.mem_append_left _ h2))
      · rcases List.mem_append.1 h2 with h3 | h3
        · rcases hA x h3 with h4 | h4
          · exact .inl (List.mem_cons_of_mem _ (List.mem_append_right _ (List.mem_append_left _ h4)))
          · exact .inr h4
        · exact .inl (List.mem_cons_of_mem _ (List.mem_append_right _ (List.mem_append_right _ h3)))

/-- Of two lists of trees without a name in common: the kids of a node, cut in two. -/
theorem addrs_cut (h : Nat) (s : T) (n i : Nat) (l1 l2 : List E) : ∀ x, (x ∈ addrs h (.node s.a l1 (s.ks.take i)) ++ addrs h (.node n l2 (s.ks.drop i)) → x ∈ addrs h s ∨ x = n) := by
  intro x hx
  cases h with
  | zero =>
    simp only [addrs_zero, T.a, List.mem_append, List.mem_singleton] at hx
    rcases hx with h1 | h1
    · exact .inl (by rw [addrs_zero]; simp [h1]; rfl)
    · exact .inr h1
  | succ h =>
    rw [addrs_node, addrs_node] at hx
    rw [addrs_succ]
    rcases List.mem_append.1 hx with h1 | h1
    · rcases List.mem_cons.1 h1 with h2 | h2
      · exact .inl (by rw [h2]; exact List.mem_cons_self ..)
      · obtain ⟨k, hk, hx'⟩ := mem_F.1 h2
        exact .inl (List.mem_cons_of_mem _ (mem_F.2 ⟨k, List.mem_of_mem_take hk, hx'⟩))
    · rcases List.mem_cons.1 h1 with h2 | h2
      · exact .inr h2
      · obtain ⟨k, hk, hx'⟩ := mem_F.1 h2
        exact .inl (List.mem_cons_of_mem _ (mem_F.2 ⟨k, List.mem_of_mem_drop hk, hx'⟩))
theorem nodup_cut (h : Nat) (s : T) (n i : Nat) (l1 l2 : List E) (hs : (addrs h s).Nodup) (hn : n ∉ addrs h s) : (addrs h (.node s.a l1 (s.ks.take i)) ++ addrs h (.node n l2 (s.ks.drop i))).Nodup := by
  cases h with
  | zero =>
    rw [addrs_zero, addrs_zero]
    rw [addrs_zero] at hn
    simp only [T.a]
    have : s.a ≠ n := fun e => hn (by simp [e])
    simpa [T.a] using this
  | succ h =>
    rw [addrs_node, addrs_node]
    rw [addrs_succ] at hs hn
    have e : (s.ks.map (addrs h)).flatten = F h (s.ks.take i) ++ F h (s.ks.drop i) := by rw [← F_append, List.take_append_drop]; rfl
    rw [e] at hs hn
    obtain ⟨n1, n2⟩ := List.nodup_cons.1 hs
    obtain ⟨n3, n4, n5⟩ := List.nodup_append.1 n2
    simp only [List.mem_cons, List.mem_append, not_or] at hn n1
    refine List.nodup_append.2 ⟨List.nodup_cons.2 ⟨n1.1, n3⟩, List.nodup_cons.2 ⟨hn.2.2, n4⟩, fun x hx y hy e9 => ?_⟩
    subst e9
    rcases List.mem_cons.1 hx with h1 | h1 <;> rcases List.mem_cons.1 hy with h2 | h2
    · exact hn.1 (h2.symm.trans h1)
    · exact n1.2 (h1 ▸ h2)
    · exact hn.2.1 (h2 ▸ h1)
    · exact n5 x h1 x h2 rfl

theorem Tr.part {h a n : Nat} {l l' : List E} {k1 k2 : List T} {s : T} {w w3 : World} {ω ω3 : Ow} (ht : Tr (h + 1) w ω (.node a l (k1 ++ s :: k2))) (hn : w.heap.size ≤ n) (S3 : Stp (fun x => x = a ∨ x = s.a) w ω w3 ω3)
    (Na : Node w3 ω3 a l' ((k1 ++ .node s.a (s.l.take 2) (s.ks.take 3) :: .node n (s.l.drop 3) (s.ks.drop 3) :: k2).map T.a))
    (Ns : Node w3 ω3 s.a (s.l.take 2) ((s.ks.take 3).map T.a)) (Nn : Node w3 ω3 n (s.l.drop 3) ((s.ks.drop 3).map T.a)) :
    Tr (h + 1) w3 ω3 (.node a l' (k1 ++ .node s.a (s.l.take 2) (s.ks.take 3) :: .node n (s.l.drop 3) (s.ks.drop 3) :: k2)) ∧
      Stp (· ∈ addrs (h + 1) (.node a l (k1 ++ s :: k2))) w ω w3 ω3 ∧ ∀ x ∈ addrs (h + 1) (.node a l' (k1 ++ .node s.a (s.l.take 2) (s.ks.take 3) :: .node n (s.l.drop 3) (s.ks.drop 3) :: k2)), x ∈ addrs (h + 1) (.node a l (k1 ++ s :: k2)) ∨ w.heap.size ≤ x := by
  obtain ⟨tk, d1, d2, d3⟩ := ht.kid
  have hn' := ht.nodup
  have hns : n ∉ addrs h s := fun h1 => by have := tk.lt h1; omega
  have hA : ∀ x ∈ addrs h (.node s.a (s.l.take 2) (s.ks.take 3)) ++ addrs h (.node n (s.l.drop 3) (s.ks.drop 3)), x ∈ addrs h s ∨ w.heap.size ≤ x := fun x hx => (addrs_cut h s n 3 _ _ x hx).imp id fun e => by omega
  rw [addrs_node, F_append, F_cons] at hn'
  obtain ⟨q1, q2⟩ := List.nodup_cons.1 hn'
  have hsa := addrs_self h s
  have notS : ∀ q, q ∈ subs h s → q.a ≠ s.a → ¬ (q.a = a ∨ q.a = s.a) := fun q hq hne h1 => by
    rcases h1 with h1 | h1
    · exact d3 (h1 ▸ List.mem_map_of_mem hq)
    · exact hne h1
  have other : ∀ k ∈ k1 ++ k2, ∀ q ∈ subs h k, ¬ (q.a = a ∨ q.a = s.a) := fun k hk q hq h1 => by
    rcases List.mem_append.1 hk with h2 | h2
    · have h3 := mem_F.2 ⟨k, h2, List.mem_map_of_mem (f := T.a) hq⟩
      rcases h1 with h1 | h1
      · exact q1 (List.mem_append_left _ (h1 ▸ h3))
      · exact d1 _ h3 (h1 ▸ hsa)
    · have h3 := mem_F.2 ⟨k, h2, List.mem_map_of_mem (f := T.a) hq⟩
      rcases h1 with h1 | h1
      · exact q1 (List.mem_append_right _ (List.mem_append_right _ (h1 ▸ h3)))
      · exact d2 _ h3 (h1 ▸ hsa)
  have half : ∀ (m : Nat) (l9 : List E) (ks9 : List T), (∀ k ∈ ks9, k ∈ s.ks) → Node w3 ω3 m l9 (ks9.map T.a) → ∀ q ∈ subs h (.node m l9 ks9), Node w3 ω3 q.a q.l (q.ks.map T.a) := fun m l9 ks9 hsub hN q hq => by
    cases h with
    | zero =>
      have e : q = .node m l9 ks9 := by simpa [subs] using hq
      rw [e]; exact hN
    | succ h =>
      simp only [subs, List.mem_cons, List.mem_flatten, List.mem_map] at hq
      rcases hq with rfl | ⟨_, ⟨k, hk, rfl⟩, hq⟩
      · exact hN
      · have hks := hsub k hk
        have hqs := subs_kid hks hq
        refine (tk.laid q hqs).kept S3 (notS q hqs fun e => ?_)
        have h5 := tk.nodup
        rw [addrs_succ] at h5
        exact (List.nodup_cons.1 h5).1 (e ▸ mem_F.2 ⟨k, hks, List.mem_map_of_mem (f := T.a) hq⟩)
  refine ⟨Tr.mk' Na ?_ ?_, S3.wider fun x hx => ?_, fun x hx => ?_⟩
  · intro k hk q hq
    rcases List.mem_append.1 hk with h1 | h1
    · exact (ht.laid q (subs_kid (t := .node a l (k1 ++ s :: k2)) (k := k) (List.mem_append_left _ h1) hq)).kept S3 (other k (List.mem_append_left _ h1) q hq)
    · rcases List.mem_cons.1 h1 with h2 | h2
      · subst h2
        exact half _ _ _ (fun k hk => List.mem_of_mem_take hk) Ns q hq
      · rcases List.mem_cons.1 h2 with h3 | h3
        · subst h3
          exact half _ _ _ (fun k hk => List.mem_of_mem_drop hk) Nn q hq
        · exact (ht.laid q (subs_kid (t := .node a l (k1 ++ s :: k2)) (k := k) (List.mem_append_right _ (List.mem_cons_of_mem _ h3)) hq)).kept S3 (other k (List.mem_append_right _ h3) q hq)
  · rw [F_append, F_cons, F_cons, ← List.append_assoc (addrs h _)]
    refine nodup_swap hn' (nodup_cut h s n 3 _ _ tk.nodup hns) hA fun x hx => ht.lt ?_
    rw [addrs_node, F_append, F_cons]; exact hx
  · rcases hx with h1 | h1
    · rw [h1]; exact addrs_self (h + 1) (.node a l (k1 ++ s :: k2))
    · rw [h1]; exact addrs_kid (t := .node a l (k1 ++ s :: k2)) (k := s) (by show s ∈ k1 ++ s :: k2; simp) hsa
  · rw [addrs_node, F_append, F_cons, F_cons] at hx
    rw [addrs_node, F_append, F_cons]
    rcases List.mem_cons.1 hx with h1 | h1
    · exact .inl (by rw [h1]; exact List.mem_cons_self ..)
    · rcases List.mem_append.1 h1 with h2 | h2
      · exact .inl (List.mem_cons_of_mem _ (List.mem_append_left _ h2))
      · rw [← List.append_assoc] at h2
        rcases List.mem_append.1 h2 with h3 | h3
        · rcases hA x h3 with h4 | h4
          · exact .inl (List.mem_cons_of_mem _ (List.mem_append_right _ (List.mem_append_left _ h4)))
          · exact .inr h4
        · exact .inl (List.mem_cons_of_mem _ (List.mem_append_right _ (List.mem_append_right _ h3)))

end Go.Proofs.Ytaoamkkgiiiejaa
