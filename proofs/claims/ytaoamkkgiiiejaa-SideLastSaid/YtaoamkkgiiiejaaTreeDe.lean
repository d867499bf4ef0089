/- A kid that is too small: what its parent has become. -/
import Derived.Test.YtaoamkkgiiiejaaTreeDd
import Derived.Test.YtaoamkkgiiiejaaTreeDp
namespace Go.Proofs.Ytaoamkkgiiiejaa
open Go.RowKit
set_option linter.unusedVariables false

theorem cut_at (l : List E) (j : Nat) (h : j < l.length) : l = l.take j ++ ge l j :: l.drop (j + 1) := by
  rw [ge_get l j h, ← List.drop_eq_getElem_cons h, List.take_append_drop]
theorem set_at (l : List E) (j : Nat) (y : E) (h : j < l.length) : l.set j y = l.take j ++ y :: l.drop (j + 1) := by
  rw [List.set_eq_take_append_cons_drop, if_pos h]

/-- What mending a kid comes to. -/
def Mend (B h : Nat) (t : T) (need : Prop) (w : World) (ω : Ow) (e : Ending) (w' : World) : Prop :=
  e = .returned (.tuple #[]) ∧ ∃ ω' t', t'.a = t.a ∧ Good (h + 1) t' ∧ ents (h + 1) t' = ents (h + 1) t ∧ t'.l.length ≤ t.l.length ∧ t.l.length ≤ t'.l.length + 1 ∧ (¬ need → t'.l.length = t.l.length) ∧
    Stp (· ∈ addrs (h + 1) t) w ω w' ω' ∧ Okw B w' ω' ∧ Tr (h + 1) w' ω' t' ∧ ∀ x ∈ addrs (h + 1) t', x ∈ addrs (h + 1) t

theorem pair_turn {B h a j : Nat} {l : List E} {k1 k2 : List T} {p q p' q' : T} {y : E} {w w' : World} {ω : Ow} {need : Prop} {e : Ending} (hn : need) (he : e = .returned (.tuple #[]))
    (ht : Tr (h + 1) w ω (.node a l (k1 ++ ([p, q] ++ k2)))) (hj : k1.length = j) (hkl : (k1 ++ ([p, q] ++ k2)).length = l.length + 1) (hall : ∀ k ∈ k1 ++ k2, Good h k ∧ 2 ≤ k.l.length ∧ k.l.length ≤ 4)
    (hpa : p'.a = p.a) (hqa : q'.a = q.a) (Gp : Good h p') (Gq : Good h q') (lp : 2 ≤ p'.l.length ∧ p'.l.length ≤ 4) (lq : 2 ≤ q'.l.length ∧ q'.l.length ≤ 4)
    (hents : ents h p' ++ y :: ents h q' = ents h p ++ ge l j :: ents h q) (hperm : (F h [p', q'] ++ []).Perm (F h [p, q])) (hks : ∀ k, k ∈ p'.ks ∨ k ∈ q'.ks → k ∈ p.ks ∨ k ∈ q.ks)
    (H : Three B a p.a q.a w ω (l.set j y) p'.l q'.l ((k1 ++ ([p, q] ++ k2)).map T.a) (p'.ks.map T.a) (q'.ks.map T.a) w') : Mend B h (.node a l (k1 ++ ([p, q] ++ k2))) need w ω e w' := by
  obtain ⟨ω', S, ok, A, P, Q⟩ := H
  have hjl : j < l.length := by simp at hkl; omega
  have em : (k1 ++ ([p, q] ++ k2)).map T.a = (k1 ++ ([p', q'] ++ k2)).map T.a := by simp [hpa, hqa]
  rw [em] at A
  obtain ⟨T1, S1, A1⟩ := ht.re (mid' := [p', q']) S (fun x hx => by
      rcases hx with h1 | h1 | h1
      · exact .inl h1
      · exact .inr ⟨p, by simp, h1⟩
      · exact .inr ⟨q, by simp, h1⟩) A (fun m hm => by
      have hm' : m = p' ∨ m = q' := by simpa using hm
      have hk : ∀ k, k ∈ p'.ks ∨ k ∈ q'.ks → ∃ o ∈ [p, q], k ∈ o.ks := fun k hk => by
        rcases hks k hk with h1 | h1
        · exact ⟨p, by simp, h1⟩
        · exact ⟨q, by simp, h1⟩
      rcases hm' with rfl | rfl
      · exact ⟨by rw [hpa]; exact P, fun k h1 => hk k (.inl h1)⟩
      · exact ⟨by rw [hqa]; exact Q, fun k h1 => hk k (.inr h1)⟩) [] hperm
  have hset := set_at l j y hjl
  have hcut := cut_at l j hjl
  have hlt : k1.length = (l.take j).length := by rw [List.length_take]; omega
  refine ⟨he, ω', T.node a (l.set j y) (k1 ++ ([p', q'] ++ k2)), rfl, ⟨?_, fun k hk => ?_⟩, ?_, ?_, ?_, fun hnn => absurd hn hnn, S1, ok, T1, A1⟩
  · show (k1 ++ ([p', q'] ++ k2)).length = (l.set j y).length + 1
    rw [List.length_set, ← hkl]; simp
  · have hk' : k ∈ k1 ++ k2 ∨ k = p' ∨ k = q' := by
      have h1 : k ∈ k1 ++ ([p', q'] ++ k2) := hk
      simp only [List.mem_append, List.mem_cons, List.not_mem_nil, or_false] at h1 ⊢
      rcases h1 with h1 | (h1 | h1) | h1 <;> simp [h1]
    rcases hk' with h1 | rfl | rfl
    · exact hall k h1
    · exact ⟨Gp, lp⟩
    · exact ⟨Gq, lq⟩
  · have e1 := ents_kids h a (l.take j) y (l.drop (j + 1)) k1 k2 p' q' hlt
    have e2 := ents_kids h a (l.take j) (ge l j) (l.drop (j + 1)) k1 k2 p q hlt
    rw [← hset, hents] at e1
    rw [← hcut] at e2
    exact e1.trans e2.symm
  · show (l.set j y).length ≤ l.length; rw [List.length_set]; exact Nat.le_refl _
  · show l.length ≤ (l.set j y).length + 1; rw [List.length_set]; exact Nat.le_succ _

theorem pair_one {B h a j : Nat} {l : List E} {k1 k2 : List T} {p q : T} {w w' : World} {ω : Ow} {need : Prop} {e : Ending} (hn : need) (he : e = .returned (.tuple #[]))
    (ht : Tr (h + 1) w ω (.node a l (k1 ++ ([p, q] ++ k2)))) (hj : k1.length = j) (hkl : (k1 ++ ([p, q] ++ k2)).length = l.length + 1) (hall : ∀ k ∈ k1 ++ k2, Good h k ∧ 2 ≤ k.l.length ∧ k.l.length ≤ 4)
    (hp : Good h p) (hq : Good h q) (hlen : 1 ≤ p.l.length + q.l.length ∧ p.l.length + q.l.length ≤ 3)
    (H : Three B a p.a q.a w ω (l.take j ++ l.drop (j + 1)) (p.l ++ ge l j :: q.l) q.l (((k1 ++ ([p, q] ++ k2)).map T.a).take (j + 1) ++ ((k1 ++ ([p, q] ++ k2)).map T.a).drop (j + 2)) (p.ks.map T.a ++ q.ks.map T.a) (q.ks.map T.a) w') :
    Mend B h (.node a l (k1 ++ ([p, q] ++ k2))) need w ω e w' := by
  obtain ⟨ω', S, ok, A, P, Q⟩ := H
  obtain ⟨G1, G2, G3⟩ := made_one (ge l j) hp hq
  have hjl : j < l.length := by simp at hkl; omega
  have em : ((k1 ++ ([p, q] ++ k2)).map T.a).take (j + 1) ++ ((k1 ++ ([p, q] ++ k2)).map T.a).drop (j + 2) = (k1 ++ ([T.node p.a (p.l ++ ge l j :: q.l) (p.ks ++ q.ks)] ++ k2)).map T.a := by
    have e1 : (k1 ++ ([p, q] ++ k2)).map T.a = (k1.map T.a ++ [p.a]) ++ ([q.a] ++ k2.map T.a) := by simp
    have e2 : (k1 ++ ([p, q] ++ k2)).map T.a = (k1.map T.a ++ [p.a, q.a]) ++ k2.map T.a := by simp
    rw [e1, List.take_left' (by simp; omega), ← e1, e2, List.drop_left' (by simp; omega)]
    simp [T.a]
  rw [em] at A
  rw [← List.map_append] at P
  obtain ⟨T1, S1, A1⟩ := ht.re (mid' := [T.node p.a (p.l ++ ge l j :: q.l) (p.ks ++ q.ks)]) S (fun x hx => by
      rcases hx with h1 | h1 | h1
      · exact .inl h1
      · exact .inr ⟨p, by simp, h1⟩
      · exact .inr ⟨q, by simp, h1⟩) A (fun m hm => by
      have hm' : m = T.node p.a (p.l ++ ge l j :: q.l) (p.ks ++ q.ks) := by simpa using hm
      subst hm'
      refine ⟨P, fun k hk => ?_⟩
      rcases List.mem_append.1 hk with h1 | h1
      · exact ⟨p, by simp, h1⟩
      · exact ⟨q, by simp, h1⟩) [q.a] G3
  have hcut := cut_at l j hjl
  have hlt : k1.length = (l.take j).length := by rw [List.length_take]; omega
  have hlen2 : (l.take j ++ l.drop (j + 1)).length + 1 = l.length := by simp; omega
  refine ⟨he, ω', T.node a (l.take j ++ l.drop (j + 1)) (k1 ++ ([T.node p.a (p.l ++ ge l j :: q.l) (p.ks ++ q.ks)] ++ k2)), rfl, ⟨?_, fun k hk => ?_⟩, ?_, ?_, ?_, fun hnn => absurd hn hnn, S1, ok, T1, A1⟩
  · show (k1 ++ ([T.node p.a (p.l ++ ge l j :: q.l) (p.ks ++ q.ks)] ++ k2)).length = (l.take j ++ l.drop (j + 1)).length + 1
    rw [hlen2]
    simp at hkl ⊢; omega
  · have hk' : k ∈ k1 ++ k2 ∨ k = T.node p.a (p.l ++ ge l j :: q.l) (p.ks ++ q.ks) := by
      have h1 : k ∈ k1 ++ ([T.node p.a (p.l ++ ge l j :: q.l) (p.ks ++ q.ks)] ++ k2) := hk
      simp only [List.mem_append, List.mem_cons, List.not_mem_nil, or_false] at h1 ⊢
      rcases h1 with h1 | h1 | h1 <;> simp [h1]
    rcases hk' with h1 | rfl
    · exact hall k h1
    · refine ⟨G1, ?_⟩
      show 2 ≤ (p.l ++ ge l j :: q.l).length ∧ (p.l ++ ge l j :: q.l).length ≤ 4
      simp; omega
  · have e1 := ents_kid h a (l.take j) (l.drop (j + 1)) k1 k2 (T.node p.a (p.l ++ ge l j :: q.l) (p.ks ++ q.ks)) hlt
    have e2 := ents_kids h a (l.take j) (ge l j) (l.drop (j + 1)) k1 k2 p q hlt
    rw [G2] at e1
    rw [← hcut] at e2
    exact e1.trans e2.symm
  · show (l.take j ++ l.drop (j + 1)).length ≤ l.length; omega
  · show l.length ≤ (l.take j ++ l.drop (j + 1)).length + 1; omega

/-- Two kids beside one another. -/
theorem Tr.two {h a : Nat} {l : List E} {k1 k2 : List T} {p q : T} {w : World} {ω : Ow} (ht : Tr (h + 1) w ω (.node a l (k1 ++ ([p, q] ++ k2)))) :
    Node w ω a l ((k1 ++ ([p, q] ++ k2)).map T.a) ∧ Node w ω p.a p.l (p.ks.map T.a) ∧ Node w ω q.a q.l (q.ks.map T.a) ∧ a ≠ p.a ∧ a ≠ q.a ∧ p.a ≠ q.a := by
  have hn := ht.nodup
  rw [addrs_node, F_append, F_append, F_cons, F_cons] at hn
  obtain ⟨n1, n2⟩ := List.nodup_cons.1 hn
  obtain ⟨n3, n4, n5⟩ := List.nodup_append.1 n2
  obtain ⟨n6, n7, n8⟩ := List.nodup_append.1 n4
  obtain ⟨n9, n10, n11⟩ := List.nodup_append.1 n6
  have sp := addrs_self h p
  have sq := addrs_self h q
  refine ⟨ht.top, (ht.laid p (subs_kid (t := .node a l (k1 ++ ([p, q] ++ k2))) (k := p) (by show p ∈ k1 ++ ([p, q] ++ k2); simp) (subs_self h p))), (ht.laid q (subs_kid (t := .node a l (k1 ++ ([p, q] ++ k2))) (k := q) (by show q ∈ k1 ++ ([p, q] ++ k2); simp) (subs_self h q))), fun e => n1 ?_, fun e => n1 ?_, fun e => n11 p.a sp q.a (List.mem_append_left _ sq) e⟩
  · rw [e]; simp [sp]
  · rw [e]; simp [sq]
theorem at_two (k1 k2 : List T) (p q : T) : ((k1 ++ ([p, q] ++ k2)).map T.a)[k1.length]? = some p.a ∧ ((k1 ++ ([p, q] ++ k2)).map T.a)[k1.length + 1]? = some q.a := by
  constructor
  · rw [List.getElem?_map, List.getElem?_append_right (Nat.le_refl _), Nat.sub_self]; rfl
  · rw [List.getElem?_map, List.getElem?_append_right (by omega), show k1.length + 1 - k1.length = 1 by omega]; rfl
theorem kids_len {h : Nat} {t : T} (hg : Good h t) : (t.ks.map T.a).length = 0 ∨ (t.ks.map T.a).length = t.l.length + 1 := by
  rw [List.length_map]
  cases h with
  | zero => exact .inl (by rw [show t.ks = [] from hg]; rfl)
  | succ h => exact .inr hg.1

end Go.Proofs.Ytaoamkkgiiiejaa
