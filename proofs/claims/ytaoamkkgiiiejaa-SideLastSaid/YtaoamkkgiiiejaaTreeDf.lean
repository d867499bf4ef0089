/- A kid that is too small is mended: trees. -/
import Derived.Test.YtaoamkkgiiiejaaTreeDe
namespace Go.Proofs.Ytaoamkkgiiiejaa
open Go.RowKit
set_option linter.unusedVariables false

theorem map_ks1 (p q : T) (M : Nat) : (p.ks.take M).map T.a = (p.ks.map T.a).take M := List.map_take ..
theorem map_ks2 (p q : T) (M : Nat) : (p.ks.drop M ++ q.ks).map T.a = (p.ks.map T.a).drop M ++ q.ks.map T.a := by rw [List.map_append, List.map_drop]
theorem map_ks3 (p q : T) : (p.ks ++ q.ks.take 1).map T.a = p.ks.map T.a ++ (q.ks.map T.a).take 1 := by rw [List.map_append, List.map_take]
theorem map_ks4 (q : T) : (q.ks.drop 1).map T.a = (q.ks.map T.a).drop 1 := by rw [List.map_drop]

theorem left_pair (B h a j K : Nat) (l : List E) (k1 k2 : List T) (p q : T) (ω : Ow) (w : World) (need : Prop) (hn : need) (ht : Tr (h + 1) w ω (.node a l (k1 ++ ([p, q] ++ k2)))) (hj : k1.length = j) (hK : K = j + 1) (hkl : (k1 ++ ([p, q] ++ k2)).length = l.length + 1)
    (hall : ∀ k ∈ k1 ++ k2, Good h k ∧ 2 ≤ k.l.length ∧ k.l.length ≤ 4) (hp : Good h p) (hq : Good h q) (lp : 3 ≤ p.l.length ∧ p.l.length ≤ 4) (lq : 1 ≤ q.l.length ∧ q.l.length ≤ 3) (hl4 : l.length ≤ 4) (hok : Okw B w ω) (hB : B ≤ w.heap.size) :
    Calls Try.prog 50 #[.pointer (some ⟨a, 0, none⟩), .int .i64 (K : Int)] w (Mend B h (.node a l (k1 ++ ([p, q] ++ k2))) need w ω) := by
  obtain ⟨A, P, Q, d1, d2, d3⟩ := ht.two
  obtain ⟨i1, i2⟩ := at_two k1 k2 p q
  subst hK hj
  obtain ⟨M, hM⟩ : ∃ M, p.l.length = M + 1 := ⟨p.l.length - 1, by omega⟩
  have kp := kids_len hp
  have kq := kids_len hq
  have hps : ((k1 ++ ([p, q] ++ k2)).map T.a).length = l.length + 1 := by rw [List.length_map]; exact hkl
  have hjl : k1.length < l.length := by simp at hkl; omega
  obtain ⟨g1, g2, g3, g4⟩ := turn_left (ge l k1.length) hp hq hM
  refine (fromLeft_any B a p.a q.a k1.length (k1.length + 1) M ω l p.l q.l _ _ _ w A P Q hok hB d1 d2 d3 (hid_mk rfl) (by omega) i1 i2 hjl (hid_mk hM) (by omega) (by omega) (by omega) (by omega) (by omega) (by omega)).mono ?_
  rintro e w' ⟨he, H⟩
  refine pair_turn (p' := .node p.a (p.l.take M) (p.ks.take (M + 1))) (q' := .node q.a (ge l k1.length :: q.l) (p.ks.drop (M + 1) ++ q.ks)) (y := ge p.l M) hn he ht rfl hkl hall rfl rfl g1 g2 ?_ ?_ g3 g4 ?_ ?_
  · show 2 ≤ (p.l.take M).length ∧ (p.l.take M).length ≤ 4
    simp; omega
  · show 2 ≤ (ge l k1.length :: q.l).length ∧ (ge l k1.length :: q.l).length ≤ 4
    simp; omega
  · rintro k (h1 | h1)
    · exact .inl (List.mem_of_mem_take h1)
    · rcases List.mem_append.1 h1 with h2 | h2
      · exact .inl (List.mem_of_mem_drop h2)
      · exact .inr h2
  · have e1 : ((T.node p.a (p.l.take M) (p.ks.take (M + 1))).ks.map T.a) = (p.ks.map T.a).take (M + 1) := map_ks1 p q (M + 1)
    have e2 : ((T.node q.a (ge l k1.length :: q.l) (p.ks.drop (M + 1) ++ q.ks)).ks.map T.a) = (p.ks.map T.a).drop (M + 1) ++ q.ks.map T.a := map_ks2 p q (M + 1)
    rw [e1, e2]
    exact H

theorem right_pair (B h a j : Nat) (l : List E) (k1 k2 : List T) (p q : T) (ω : Ow) (w : World) (need : Prop) (hn : need) (ht : Tr (h + 1) w ω (.node a l (k1 ++ ([p, q] ++ k2)))) (hj : k1.length = j) (hkl : (k1 ++ ([p, q] ++ k2)).length = l.length + 1)
    (hall : ∀ k ∈ k1 ++ k2, Good h k ∧ 2 ≤ k.l.length ∧ k.l.length ≤ 4) (hp : Good h p) (hq : Good h q) (lq : 3 ≤ q.l.length ∧ q.l.length ≤ 4) (lp : 1 ≤ p.l.length ∧ p.l.length ≤ 3) (hl4 : l.length ≤ 4) (hok : Okw B w ω) (hB : B ≤ w.heap.size) :
    Calls Try.prog 51 #[.pointer (some ⟨a, 0, none⟩), .int .i64 (j : Int)] w (Mend B h (.node a l (k1 ++ ([p, q] ++ k2))) need w ω) := by
  obtain ⟨A, P, Q, d1, d2, d3⟩ := ht.two
  obtain ⟨i1, i2⟩ := at_two k1 k2 p q
  subst hj
  have kp := kids_len hp
  have kq := kids_len hq
  have hps : ((k1 ++ ([p, q] ++ k2)).map T.a).length = l.length + 1 := by rw [List.length_map]; exact hkl
  have hjl : k1.length < l.length := by simp at hkl; omega
  obtain ⟨g1, g2, g3, g4⟩ := turn_right (ge l k1.length) hp hq (by omega)
  refine (fromRight_any B a p.a q.a k1.length ω l p.l q.l _ _ _ w A P Q hok hB d1 d2 d3 (by omega) i1 i2 hjl (by omega) kq (by omega) (by omega) (by omega) (by omega) (by omega)).mono ?_
  rintro e w' ⟨he, H⟩
  refine pair_turn (p' := .node p.a (p.l ++ [ge l k1.length]) (p.ks ++ q.ks.take 1)) (q' := .node q.a (q.l.drop 1) (q.ks.drop 1)) (y := ge q.l 0) hn he ht rfl hkl hall rfl rfl g1 g2 ?_ ?_ g3 g4 ?_ ?_
  · show 2 ≤ (p.l ++ [ge l k1.length]).length ∧ (p.l ++ [ge l k1.length]).length ≤ 4
    simp; omega
  · show 2 ≤ (q.l.drop 1).length ∧ (q.l.drop 1).length ≤ 4
    simp; omega
  · rintro k (h1 | h1)
    · rcases List.mem_append.1 h1 with h2 | h2
      · exact .inl h2
      · exact .inr (List.mem_of_mem_take h2)
    · exact .inr (List.mem_of_mem_drop h1)
  · have e1 : ((T.node p.a (p.l ++ [ge l k1.length]) (p.ks ++ q.ks.take 1)).ks.map T.a) = p.ks.map T.a ++ (q.ks.map T.a).take 1 := map_ks3 p q
    have e2 : ((T.node q.a (q.l.drop 1) (q.ks.drop 1)).ks.map T.a) = (q.ks.map T.a).drop 1 := map_ks4 q
    rw [e1, e2]
    exact H

theorem join_pair (B h a j : Nat) (l : List E) (k1 k2 : List T) (p q : T) (ω : Ow) (w : World) (need : Prop) (hn : need) (ht : Tr (h + 1) w ω (.node a l (k1 ++ ([p, q] ++ k2)))) (hj : k1.length = j) (hkl : (k1 ++ ([p, q] ++ k2)).length = l.length + 1)
    (hall : ∀ k ∈ k1 ++ k2, Good h k ∧ 2 ≤ k.l.length ∧ k.l.length ≤ 4) (hp : Good h p) (hq : Good h q) (hlen : 1 ≤ p.l.length + q.l.length ∧ p.l.length + q.l.length ≤ 3) (hl4 : l.length ≤ 4) (hok : Okw B w ω) (hB : B ≤ w.heap.size) :
    Calls Try.prog 52 #[.pointer (some ⟨a, 0, none⟩), .int .i64 (j : Int)] w (Mend B h (.node a l (k1 ++ ([p, q] ++ k2))) need w ω) := by
  obtain ⟨A, P, Q, d1, d2, d3⟩ := ht.two
  obtain ⟨i1, i2⟩ := at_two k1 k2 p q
  subst hj
  have kp := kids_len hp
  have kq := kids_len hq
  have hps : ((k1 ++ ([p, q] ++ k2)).map T.a).length = l.length + 1 := by rw [List.length_map]; exact hkl
  have hjl : k1.length < l.length := by simp at hkl; omega
  refine (join_any B a p.a q.a k1.length ω l p.l q.l _ _ _ w A P Q hok hB d1 d2 d3 (by omega) i1 i2 hjl (by omega) (by omega) (by omega) (by omega) (by omega) (by omega)).mono ?_
  rintro e w' ⟨he, H⟩
  exact pair_one hn he ht rfl hkl hall hp hq hlen H

theorem Tr.one {h a : Nat} {l : List E} {k1 k2 : List T} {s : T} {w : World} {ω : Ow} (ht : Tr (h + 1) w ω (.node a l (k1 ++ s :: k2))) : Node w ω s.a s.l (s.ks.map T.a) :=
  ht.laid s (subs_kid (t := .node a l (k1 ++ s :: k2)) (k := s) (by show s ∈ k1 ++ s :: k2; simp) (subs_self h s))
theorem at_one (k1 k2 : List T) (s : T) : ((k1 ++ s :: k2).map T.a)[k1.length]? = some s.a := by
  rw [List.getElem?_map, List.getElem?_append_right (Nat.le_refl _), Nat.sub_self]; rfl

theorem fill_tree (B h a K : Nat) (l : List E) (k1 k2 : List T) (s : T) (ω : Ow) (w : World) (ht : Tr (h + 1) w ω (.node a l (k1 ++ s :: k2))) (hK : k1.length = K) (hkl : (k1 ++ s :: k2).length = l.length + 1)
    (hall : ∀ k ∈ k1 ++ k2, Good h k ∧ 2 ≤ k.l.length ∧ k.l.length ≤ 4) (hs : Good h s) (h1 : 1 ≤ s.l.length) (h4 : s.l.length ≤ 4) (hl : 1 ≤ l.length) (hl4 : l.length ≤ 4) (hok : Okw B w ω) (hB : B ≤ w.heap.size) :
    Calls Try.prog 40 #[.pointer (some ⟨a, 0, none⟩), .int .i64 (K : Int)] w (Mend B h (.node a l (k1 ++ s :: k2)) (s.l.length < 2) w ω) := by
  have A : Node w ω a l ((k1 ++ s :: k2).map T.a) := ht.top
  have S := ht.one
  have hps : ((k1 ++ s :: k2).map T.a).length = l.length + 1 := by rw [List.length_map]; exact hkl
  have hkk : k1.length + k2.length = l.length := by simp at hkl; omega
  by_cases h2 : 2 ≤ s.l.length
  · refine (fill_ok a s.a K ω l s.l _ _ w A S (by omega) (by rw [← hK]; exact at_one k1 k2 s) h2).mono ?_
    rintro e w' ⟨rfl, rfl⟩
    refine ⟨rfl, ω, _, rfl, ⟨hkl, fun k hk => ?_⟩, rfl, Nat.le_refl _, Nat.le_succ _, fun _ => rfl, Stp.refl hok, hok, ht, fun x hx => hx⟩
    have hk' : k ∈ k1 ++ k2 ∨ k = s := by
      have h1 : k ∈ k1 ++ s :: k2 := hk
      simp only [List.mem_append, List.mem_cons] at h1 ⊢
      rcases h1 with h1 | h1 | h1 <;> simp [h1]
    rcases hk' with h3 | rfl
    · exact hall k h3
    · exact ⟨hs, h2, h4⟩
  · have hn : s.l.length < 2 := by omega
    rcases List.eq_nil_or_concat k1 with rfl | ⟨k1', b, rfl⟩
    · rcases k2 with _ | ⟨r, k2⟩
      · simp at hkk; omega
      · have hr := hall r (by simp)
        have hall' : ∀ k ∈ ([] : List T) ++ k2, Good h k ∧ 2 ≤ k.l.length ∧ k.l.length ≤ 4 := fun k hk => hall k (by simp at hk ⊢; exact .inr hk)
        have R : Node w ω r.a r.l (r.ks.map T.a) := (Tr.two (k1 := []) (k2 := k2) (p := s) (q := r) ht).2.2.1
        have i2 : (([] ++ s :: r :: k2).map T.a)[1]? = some r.a := rfl
        have i1 : (([] ++ s :: r :: k2).map T.a)[0]? = some s.a := rfl
        have hK0 : K = 0 := by simpa using hK.symm
        subst hK0
        by_cases h3 : 2 < r.l.length
        · exact fill_right0 a s.a r.a ω l s.l r.l _ _ _ w A S R (by omega) i1 i2 hn h3 (by omega) _ (right_pair B h a 0 l [] k2 s r ω w (s.l.length < 2) hn ht rfl hkl hall' hs hr.1 (by omega) (by omega) hl4 hok hB) (fun e w' H => H.1)
        · exact fill_join0 a s.a r.a ω l s.l r.l _ _ _ w A S R (by omega) i1 i2 hn h3 (by omega) _ (join_pair B h a 0 l [] k2 s r ω w (s.l.length < 2) hn ht rfl hkl hall' hs hr.1 (by omega) hl4 hok hB) (fun e w' H => H.1)
    · have hb := hall b (by simp)
      have ek : k1'.concat b ++ s :: k2 = k1' ++ ([b, s] ++ k2) := by simp
      rw [ek] at ht hkl A hps ⊢
      obtain ⟨_, Bn, _, _, _, _⟩ := ht.two
      obtain ⟨i1, i2⟩ := at_two k1' k2 b s
      have hall' : ∀ k ∈ k1' ++ k2, Good h k ∧ 2 ≤ k.l.length ∧ k.l.length ≤ 4 := fun k hk => hall k (by simp at hk ⊢; rcases hk with h9 | h9 <;> simp [h9])
      have hKj : K = k1'.length + 1 := by rw [← hK]; simp
      have iK : ((k1' ++ ([b, s] ++ k2)).map T.a)[K]? = some s.a := by rw [hKj]; exact i2
      by_cases h3 : 2 < b.l.length
      · exact fill_left a s.a b.a k1'.length K ω l s.l b.l _ _ _ w A S Bn (hid_mk hKj) (by omega) iK i1 hn h3 (by omega) _ (left_pair B h a k1'.length K l k1' k2 b s ω w (s.l.length < 2) hn ht rfl hKj hkl hall' hb.1 hs (by omega) (by omega) hl4 hok hB) (fun e w' H => H.1)
      · rcases k2 with _ | ⟨r, k2⟩
        · have hKl : ¬ K < l.length := by simp at hkk; omega
          exact fill_join a s.a b.a 0 k1'.length K ω l s.l b.l [] _ _ _ [] w A S Bn (hid_mk hKj) (by omega) iK i1 hn h3 (fun h9 => absurd h9 hKl) (by omega) hps.symm _ (join_pair B h a k1'.length l k1' [] b s ω w (s.l.length < 2) hn ht rfl hkl hall' hb.1 hs (by omega) hl4 hok hB) (fun e w' H => H.1)
        · have hr := hall r (by simp)
          have ek2 : k1' ++ ([b, s] ++ r :: k2) = (k1' ++ [b]) ++ ([s, r] ++ k2) := by simp
          have ht2 := ht
          rw [ek2] at ht2
          obtain ⟨_, _, R, _, _, _⟩ := ht2.two
          have i3 := (at_two (k1' ++ [b]) k2 s r).2
          rw [← ek2] at i3
          have iR : ((k1' ++ ([b, s] ++ r :: k2)).map T.a)[K + 1]? = some r.a := by
            rw [hKj]; simpa using i3
          have hKl : K < l.length := by simp at hkk; omega
          by_cases h5 : 2 < r.l.length
          · have C := right_pair B h a K l (k1' ++ [b]) k2 s r ω w (s.l.length < 2) hn ht2 (by rw [hKj]; simp) (by rw [← ek2]; exact hkl) (fun k hk => hall k (by simp at hk ⊢; rcases hk with h9 | h9 | h9 <;> simp [h9])) hs hr.1 (by omega) (by omega) hl4 hok hB
            rw [← ek2] at C
            exact fill_right a s.a b.a r.a k1'.length K ω l s.l b.l r.l _ _ _ _ w A S Bn R (hid_mk hKj) (by omega) iK i1 iR hn h3 h5 hKl (by omega) _ C (fun e w' H => H.1)
          · exact fill_join a s.a b.a r.a k1'.length K ω l s.l b.l r.l _ _ _ _ w A S Bn (hid_mk hKj) (by omega) iK i1 hn h3 (fun _ => ⟨R, iR, h5⟩) (by omega) hps.symm _ (join_pair B h a k1'.length l k1' (r :: k2) b s ω w (s.l.length < 2) hn ht rfl hkl hall' hb.1 hs (by omega) hl4 hok hB) (fun e w' H => H.1)

end Go.Proofs.Ytaoamkkgiiiejaa
