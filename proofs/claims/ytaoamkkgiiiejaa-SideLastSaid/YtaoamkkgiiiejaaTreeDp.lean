/- Kids that trade entries, two kids made one: the plain law, and a tree laid anew about them. -/
import Derived.Test.YtaoamkkgiiiejaaTreeQ
import Derived.Test.YtaoamkkgiiiejaaTreeR
namespace Go.Proofs.Ytaoamkkgiiiejaa
open Go.RowKit
set_option linter.unusedVariables false

/-- The names below a node. -/
def KA : Nat → List T → List Nat
  | 0, _ => []
  | h + 1, ks => F h ks
theorem addrs_ka (h : Nat) (t : T) : addrs h t = t.a :: KA h t.ks := by
  cases h with
  | zero => rfl
  | succ h => exact addrs_succ h t
theorem node_a (a : Nat) (l : List E) (ks : List T) : (T.node a l ks).a = a := rfl
theorem node_ks (a : Nat) (l : List E) (ks : List T) : (T.node a l ks).ks = ks := rfl
theorem KA_append (h : Nat) (a b : List T) : KA h (a ++ b) = KA h a ++ KA h b := by
  cases h with
  | zero => rfl
  | succ h => exact F_append h a b
theorem top_ne {h : Nat} : ∀ {mid : List T}, (F h mid).Nodup → ∀ {m o : T} {x : Nat}, m ∈ mid → o ∈ mid → x ∈ KA h o.ks → x ≠ m.a
  | [], _, _, _, _, hm, _, _ => by cases hm
  | t :: r, hn, m, o, x, hm, ho, hx => by
    rw [F_cons] at hn
    obtain ⟨n1, n2, n3⟩ := List.nodup_append.1 hn
    rw [addrs_ka] at n1
    have n4 := (List.nodup_cons.1 n1).1
    have inF : ∀ {o : T}, o ∈ r → x ∈ KA h o.ks → x ∈ F h r := fun ho hx => mem_F.2 ⟨_, ho, by rw [addrs_ka]; exact List.mem_cons_of_mem _ hx⟩
    have aF : ∀ {o : T}, o ∈ r → o.a ∈ F h r := fun ho => mem_F.2 ⟨_, ho, addrs_self h _⟩
    rcases List.mem_cons.1 hm with rfl | hm1 <;> rcases List.mem_cons.1 ho with rfl | ho1
    · exact fun e => n4 (e ▸ hx)
    · exact fun e => n3 m.a (addrs_self h m) x (inF ho1 hx) e.symm
    · exact fun e => n3 x (by rw [addrs_ka]; exact List.mem_cons_of_mem _ hx) _ (mem_F.2 ⟨m, hm1, addrs_self h m⟩) e
    · exact top_ne n2 hm1 ho1 hx

theorem Tr.re {h a : Nat} {l l' : List E} {k1 k2 mid mid' : List T} {w w' : World} {ω ω' : Ow} {S : Nat → Prop} (ht : Tr (h + 1) w ω (.node a l (k1 ++ (mid ++ k2)))) (s : Stp S w ω w' ω')
    (hS : ∀ x, S x → x = a ∨ ∃ m ∈ mid, x = m.a) (Na : Node w' ω' a l' ((k1 ++ (mid' ++ k2)).map T.a))
    (hm : ∀ m ∈ mid', Node w' ω' m.a m.l (m.ks.map T.a) ∧ ∀ k ∈ m.ks, ∃ o ∈ mid, k ∈ o.ks) (X : List Nat) (hp : (F h mid' ++ X).Perm (F h mid)) :
    Tr (h + 1) w' ω' (.node a l' (k1 ++ (mid' ++ k2))) ∧ Stp (· ∈ addrs (h + 1) (.node a l (k1 ++ (mid ++ k2)))) w ω w' ω' ∧ ∀ x ∈ addrs (h + 1) (.node a l' (k1 ++ (mid' ++ k2))), x ∈ addrs (h + 1) (.node a l (k1 ++ (mid ++ k2))) := by
  have hn := ht.nodup
  rw [addrs_node, F_append, F_append] at hn
  obtain ⟨n1, n2⟩ := List.nodup_cons.1 hn
  obtain ⟨n3, n4, n5⟩ := List.nodup_append.1 n2
  obtain ⟨n6, n7, n8⟩ := List.nodup_append.1 n4
  have inmid : ∀ m ∈ mid, m.a ∈ F h mid := fun m hm => mem_F.2 ⟨m, hm, addrs_self h m⟩
  have o1 : ∀ k ∈ k1, ∀ q ∈ subs h k, ¬ S q.a := fun k hk q hq hs => by
    have hF : q.a ∈ F h k1 := mem_F.2 ⟨k, hk, List.mem_map_of_mem hq⟩
    rcases hS _ hs with h1 | ⟨m, h1, h2⟩
    · exact n1 (h1 ▸ List.mem_append_left _ hF)
    · exact n5 _ hF _ (List.mem_append_left _ (inmid m h1)) h2
  have o2 : ∀ k ∈ k2, ∀ q ∈ subs h k, ¬ S q.a := fun k hk q hq hs => by
    have hF : q.a ∈ F h k2 := mem_F.2 ⟨k, hk, List.mem_map_of_mem hq⟩
    rcases hS _ hs with h1 | ⟨m, h1, h2⟩
    · exact n1 (h1 ▸ List.mem_append_right _ (List.mem_append_right _ hF))
    · exact n8 _ (inmid m h1) _ hF h2.symm
  have hsub : (a :: (F h k1 ++ (F h mid' ++ F h k2))).Sublist (a :: (F h k1 ++ ((F h mid' ++ X) ++ F h k2))) := by
    refine List.Sublist.cons_cons a (List.Sublist.append (List.Sublist.refl _) ?_)
    rw [List.append_assoc]
    exact List.Sublist.append (List.Sublist.refl _) (List.sublist_append_right ..)
  have hperm : (a :: (F h k1 ++ ((F h mid' ++ X) ++ F h k2))).Perm (a :: (F h k1 ++ (F h mid ++ F h k2))) := List.Perm.cons a (List.Perm.append_left _ (List.Perm.append_right _ hp))
  refine ⟨Tr.mk' Na ?_ ?_, s.wider fun x hx => ?_, fun x hx => ?_⟩
  · intro k hk q hq
    rcases List.mem_append.1 hk with h1 | h1
    · exact (ht.laid q (subs_kid (t := .node a l (k1 ++ (mid ++ k2))) (k := k) (List.mem_append_left _ h1) hq)).kept s (o1 k h1 q hq)
    · rcases List.mem_append.1 h1 with h2 | h2
      · obtain ⟨hN, hK⟩ := hm k h2
        cases h with
        | zero =>
          have e : q = k := by simpa [subs] using hq
          rw [e]; exact hN
        | succ h =>
          simp only [subs, List.mem_cons, List.mem_flatten, List.mem_map] at hq
          rcases hq with rfl | ⟨_, ⟨c, hc, rfl⟩, hq⟩
          · exact hN
          · obtain ⟨o, ho, hco⟩ := hK c hc
            have hqo := subs_kid hco hq
            have hin : q.a ∈ KA (h + 1) o.ks := mem_F.2 ⟨c, hco, List.mem_map_of_mem hq⟩
            refine (ht.laid q (subs_kid (t := .node a l (k1 ++ (mid ++ k2))) (k := o) (List.mem_append_right _ (List.mem_append_left _ ho)) hqo)).kept s fun hs => ?_
            rcases hS _ hs with h3 | ⟨m, h3, h4⟩
            · refine n1 (h3 ▸ List.mem_append_right _ (List.mem_append_left _ (mem_F.2 ⟨o, ho, ?_⟩)))
              rw [addrs_ka]; exact List.mem_cons_of_mem _ hin
            · exact top_ne n6 h3 ho hin h4
      · exact (ht.laid q (subs_kid (t := .node a l (k1 ++ (mid ++ k2))) (k := k) (List.mem_append_right _ (List.mem_append_right _ h2)) hq)).kept s (o2 k h2 q hq)
  · rw [F_append, F_append]
    exact hsub.nodup (hperm.nodup_iff.2 hn)
  · rcases hS x hx with h1 | ⟨m, h1, h2⟩
    · rw [h1]; exact addrs_self (h + 1) (.node a l (k1 ++ (mid ++ k2)))
    · rw [h2]; exact addrs_kid (t := .node a l (k1 ++ (mid ++ k2))) (k := m) (List.mem_append_right _ (List.mem_append_left _ h1)) (addrs_self h m)
  · rw [addrs_node, F_append, F_append] at hx ⊢
    exact hperm.mem_iff.1 (hsub.subset hx)

/-! ### The plain law -/
theorem take_last (l : List E) (M : Nat) (h : l.length = M + 1) : l = l.take M ++ [ge l M] := by
  have h1 := List.drop_eq_getElem_cons (l := l) (i := M) (by omega)
  rw [List.drop_of_length_le (i := M + 1) (by omega)] at h1
  rw [ge_get l M (by omega), ← h1, List.take_append_drop]
theorem head_first (l : List E) (h : 0 < l.length) : l = ge l 0 :: l.drop 1 := by
  rcases l with _ | ⟨x, r⟩
  · simp at h
  · rfl

theorem turn_left {h : Nat} {p q : T} (x : E) {M : Nat} (hp : Good h p) (hq : Good h q) (hM : p.l.length = M + 1) :
    Good h (.node p.a (p.l.take M) (p.ks.take (M + 1))) ∧ Good h (.node q.a (x :: q.l) (p.ks.drop (M + 1) ++ q.ks)) ∧
      ents h (.node p.a (p.l.take M) (p.ks.take (M + 1))) ++ ge p.l M :: ents h (.node q.a (x :: q.l) (p.ks.drop (M + 1) ++ q.ks)) = ents h p ++ x :: ents h q ∧
      (F h [.node p.a (p.l.take M) (p.ks.take (M + 1)), .node q.a (x :: q.l) (p.ks.drop (M + 1) ++ q.ks)] ++ []).Perm (F h [p, q]) := by
  have hl := take_last p.l M hM
  have hperm : (F h [.node p.a (p.l.take M) (p.ks.take (M + 1)), .node q.a (x :: q.l) (p.ks.drop (M + 1) ++ q.ks)] ++ []).Perm (F h [p, q]) := by
    have e : KA h p.ks = KA h (p.ks.take (M + 1)) ++ KA h (p.ks.drop (M + 1)) := by rw [← KA_append, List.take_append_drop]
    rw [List.append_nil, List.perm_iff_count]
    intro z
    have e' := congrArg (List.count z) e
    rw [List.count_append] at e'
    simp only [F_cons, addrs_ka, node_a, node_ks, KA_append, List.count_append, List.count_cons]
    omega
  cases h with
  | zero =>
    have h1 : p.ks = [] := hp
    have h2 : q.ks = [] := hq
    refine ⟨by show p.ks.take _ = []; rw [h1]; rfl, by show p.ks.drop _ ++ q.ks = []; rw [h1, h2]; rfl, ?_, hperm⟩
    show p.l.take M ++ ge p.l M :: (x :: q.l) = p.l ++ x :: q.l
    conv => rhs; rw [hl]
    simp
  | succ h =>
    obtain ⟨a1, a2⟩ := hp
    obtain ⟨b1, b2⟩ := hq
    refine ⟨⟨by show (p.ks.take (M + 1)).length = (p.l.take M).length + 1; simp; omega, fun k hk => a2 k (List.mem_of_mem_take hk)⟩, ⟨by show (p.ks.drop (M + 1) ++ q.ks).length = (x :: q.l).length + 1; simp; omega, fun k hk => ?_⟩, ?_, hperm⟩
    · rcases List.mem_append.1 hk with h3 | h3
      · exact a2 k (List.mem_of_mem_drop h3)
      · exact b2 k h3
    · show inter (p.l.take M) ((p.ks.take (M + 1)).map (ents h)) ++ ge p.l M :: inter (x :: q.l) ((p.ks.drop (M + 1) ++ q.ks).map (ents h)) = inter p.l (p.ks.map (ents h)) ++ x :: inter q.l (q.ks.map (ents h))
      have hd : ((p.ks.drop (M + 1)).map (ents h)).length = 1 := by simp; omega
      have e1 : inter p.l (p.ks.map (ents h)) = inter (p.l.take M) ((p.ks.take (M + 1)).map (ents h)) ++ ge p.l M :: inter [] ((p.ks.drop (M + 1)).map (ents h)) := by
        rw [← inter_cut _ _ _ _ _ (by simp; omega) (by intro e9; rw [e9] at hd; simp at hd), ← List.map_append, List.take_append_drop, ← hl]
      have e2 : inter (x :: q.l) ((p.ks.drop (M + 1) ++ q.ks).map (ents h)) = inter [] ((p.ks.drop (M + 1)).map (ents h)) ++ x :: inter q.l (q.ks.map (ents h)) := by
        rw [List.map_append]
        exact inter_cut [] x q.l _ _ (by rw [hd]; rfl) (by intro e9; have h9 := congrArg List.length e9; simp at h9; rw [h9] at b1; simp at b1)
      rw [e1, e2]
      simp

theorem turn_right {h : Nat} {p q : T} (x : E) (hp : Good h p) (hq : Good h q) (h0 : 0 < q.l.length) :
    Good h (.node p.a (p.l ++ [x]) (p.ks ++ q.ks.take 1)) ∧ Good h (.node q.a (q.l.drop 1) (q.ks.drop 1)) ∧
      ents h (.node p.a (p.l ++ [x]) (p.ks ++ q.ks.take 1)) ++ ge q.l 0 :: ents h (.node q.a (q.l.drop 1) (q.ks.drop 1)) = ents h p ++ x :: ents h q ∧
      (F h [.node p.a (p.l ++ [x]) (p.ks ++ q.ks.take 1), .node q.a (q.l.drop 1) (q.ks.drop 1)] ++ []).Perm (F h [p, q]) := by
  have hl := head_first q.l h0
  have hperm : (F h [.node p.a (p.l ++ [x]) (p.ks ++ q.ks.take 1), .node q.a (q.l.drop 1) (q.ks.drop 1)] ++ []).Perm (F h [p, q]) := by
    have e : KA h q.ks = KA h (q.ks.take 1) ++ KA h (q.ks.drop 1) := by rw [← KA_append, List.take_append_drop]
    rw [List.append_nil, List.perm_iff_count]
    intro z
    have e' := congrArg (List.count z) e
    rw [List.count_append] at e'
    simp only [F_cons, addrs_ka, node_a, node_ks, KA_append, List.count_append, List.count_cons]
    omega
  cases h with
  | zero =>
    have h1 : p.ks = [] := hp
    have h2 : q.ks = [] := hq
    refine ⟨by show p.ks ++ q.ks.take 1 = []; rw [h1, h2]; rfl, by show q.ks.drop 1 = []; rw [h2]; rfl, ?_, hperm⟩
    show (p.l ++ [x]) ++ ge q.l 0 :: q.l.drop 1 = p.l ++ x :: q.l
    rw [← hl]; simp
  | succ h =>
    obtain ⟨a1, a2⟩ := hp
    obtain ⟨b1, b2⟩ := hq
    refine ⟨⟨by show (p.ks ++ q.ks.take 1).length = (p.l ++ [x]).length + 1; simp; omega, fun k hk => ?_⟩, ⟨by show (q.ks.drop 1).length = (q.l.drop 1).length + 1; simp; omega, fun k hk => b2 k (List.mem_of_mem_drop hk)⟩, ?_, hperm⟩
    · rcases List.mem_append.1 hk with h3 | h3
      · exact a2 k h3
      · exact b2 k (List.mem_of_mem_take h3)
    · show inter (p.l ++ [x]) ((p.ks ++ q.ks.take 1).map (ents h)) ++ ge q.l 0 :: inter (q.l.drop 1) ((q.ks.drop 1).map (ents h)) = inter p.l (p.ks.map (ents h)) ++ x :: inter q.l (q.ks.map (ents h))
      have hd : ((q.ks.take 1).map (ents h)).length = 1 := by simp; omega
      have e1 : inter q.l (q.ks.map (ents h)) = inter [] ((q.ks.take 1).map (ents h)) ++ ge q.l 0 :: inter (q.l.drop 1) ((q.ks.drop 1).map (ents h)) := by
        rw [← inter_cut _ _ _ _ _ (by rw [hd]; rfl) (by intro e9; have h9 := congrArg List.length e9; simp at h9; omega), ← List.map_append, List.take_append_drop, List.nil_append, ← hl]
      have e2 : inter (p.l ++ [x]) ((p.ks ++ q.ks.take 1).map (ents h)) = inter p.l (p.ks.map (ents h)) ++ x :: inter [] ((q.ks.take 1).map (ents h)) := by
        rw [List.map_append]
        exact inter_cut p.l x [] _ _ (by simp; omega) (by intro e9; rw [e9] at hd; simp at hd)
      rw [e1, e2]
      simp

theorem made_one {h : Nat} {p q : T} (x : E) (hp : Good h p) (hq : Good h q) :
    Good h (.node p.a (p.l ++ x :: q.l) (p.ks ++ q.ks)) ∧ ents h (.node p.a (p.l ++ x :: q.l) (p.ks ++ q.ks)) = ents h p ++ x :: ents h q ∧
      (F h [.node p.a (p.l ++ x :: q.l) (p.ks ++ q.ks)] ++ [q.a]).Perm (F h [p, q]) := by
  have hperm : (F h [.node p.a (p.l ++ x :: q.l) (p.ks ++ q.ks)] ++ [q.a]).Perm (F h [p, q]) := by
    rw [List.perm_iff_count]
    intro z
    simp only [F_cons, addrs_ka, node_a, node_ks, KA_append, List.count_append, List.count_cons]
    have : F h ([] : List T) = [] := rfl
    rw [this]
    simp only [List.count_nil]
    omega
  cases h with
  | zero =>
    have h1 : p.ks = [] := hp
    have h2 : q.ks = [] := hq
    exact ⟨by show p.ks ++ q.ks = []; rw [h1, h2]; rfl, rfl, hperm⟩
  | succ h =>
    obtain ⟨a1, a2⟩ := hp
    obtain ⟨b1, b2⟩ := hq
    refine ⟨⟨by show (p.ks ++ q.ks).length = (p.l ++ x :: q.l).length + 1; simp; omega, fun k hk => ?_⟩, ?_, hperm⟩
    · rcases List.mem_append.1 hk with h3 | h3
      · exact a2 k h3
      · exact b2 k h3
    · show inter (p.l ++ x :: q.l) ((p.ks ++ q.ks).map (ents h)) = inter p.l (p.ks.map (ents h)) ++ x :: inter q.l (q.ks.map (ents h))
      rw [List.map_append]
      exact inter_cut p.l x q.l _ _ (by simp; omega) (by intro e9; have h9 := congrArg List.length e9; simp at h9; rw [h9] at b1; simp at b1)

end Go.Proofs.Ytaoamkkgiiiejaa
