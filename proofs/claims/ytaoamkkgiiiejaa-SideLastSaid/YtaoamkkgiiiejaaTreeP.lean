/- Trees laid in memory; what parting and adding make of them. -/
import Derived.Test.YtaoamkkgiiiejaaTreeF
namespace Go.Proofs.Ytaoamkkgiiiejaa
open Go.RowKit
set_option linter.unusedVariables false

/-! ### The plain law -/
theorem cut5 (l : List E) (h : l.length = 5) : l = l.take 2 ++ ge l 2 :: l.drop 3 := by
  have h1 := List.drop_eq_getElem_cons (l := l) (i := 2) (by omega)
  rw [ge_get l 2 (by omega), ← h1, List.take_append_drop]
theorem parted {h : Nat} {s : T} (n : Nat) (hg : Good h s) (hl : s.l.length = 5) :
    ents h s = ents h (.node s.a (s.l.take 2) (s.ks.take 3)) ++ ge s.l 2 :: ents h (.node n (s.l.drop 3) (s.ks.drop 3)) ∧ Good h (.node s.a (s.l.take 2) (s.ks.take 3)) ∧ Good h (.node n (s.l.drop 3) (s.ks.drop 3)) := by
  cases h with
  | zero =>
    have hk : s.ks = [] := hg
    exact ⟨cut5 s.l hl, by show s.ks.take 3 = []; rw [hk]; rfl, by show s.ks.drop 3 = []; rw [hk]; rfl⟩
  | succ h =>
    obtain ⟨h1, h2⟩ := hg
    refine ⟨?_, ⟨?_, fun k hk => h2 k (List.mem_of_mem_take hk)⟩, ⟨?_, fun k hk => h2 k (List.mem_of_mem_drop hk)⟩⟩
    · show inter s.l (s.ks.map (ents h)) = inter (s.l.take 2) ((s.ks.take 3).map (ents h)) ++ ge s.l 2 :: inter (s.l.drop 3) ((s.ks.drop 3).map (ents h))
      rw [← inter_cut _ _ _ _ _ (by simp; omega) (by simp; omega), ← List.map_append, List.take_append_drop, ← cut5 s.l hl]
    · show (s.ks.take 3).length = (s.l.take 2).length + 1
      simp; omega
    · show (s.ks.drop 3).length = (s.l.drop 3).length + 1
      simp; omega

/-- A tree whose nodes are right, of at most four entries at its top; its entries in order. -/
structure Fit (h : Nat) (t : T) : Prop where
  good : Good h t
  srt : Srt (ents h t)

theorem sub_post : ∀ (l : List E) (ms : List (List E)), ms.length = l.length → l.Sublist (post l ms)
  | [], _, _ => List.nil_sublist _
  | x :: l, m :: ms, h => by
    show (x :: l).Sublist (x :: (m ++ post l ms))
    exact ((sub_post l ms (by simpa using h)).trans (List.sublist_append_right m _)).cons_cons x
  | _ :: _, [], h => by simp at h
theorem sub_inter (l : List E) (ms : List (List E)) (h : ms.length = l.length + 1) : l.Sublist (inter l ms) := by
  rcases ms with _ | ⟨m, ms⟩
  · simp at h
  · exact (sub_post l ms (by simpa using h)).trans (List.sublist_append_right m _)
theorem srt_top {h : Nat} {t : T} (hg : Good h t) (hs : Srt (ents h t)) : Srt t.l := by
  cases h with
  | zero => exact hs
  | succ h => exact List.Pairwise.sublist (sub_inter t.l _ (by simpa using hg.1)) hs
theorem mem_top {h : Nat} {t : T} {e : E} (hg : Good h t) (he : e ∈ t.l) : e ∈ ents h t := by
  cases h with
  | zero => exact he
  | succ h => exact (sub_inter t.l _ (by simpa using hg.1)).subset he

theorem ents_split {h : Nat} {a : Nat} {l : List E} {ks : List T} {e : E} (hg : Good (h + 1) (.node a l ks)) (hs : Srt (ents (h + 1) (.node a l ks))) (he : e ∉ l) :
    ∃ k1 s k2, ks = k1 ++ s :: k2 ∧ k1.length = (below e l).length ∧ l = below e l ++ above e l ∧ (below e l).length ≤ l.length ∧
      ents (h + 1) (.node a l ks) = pre (below e l) (k1.map (ents h)) ++ ents h s ++ post (above e l) (k2.map (ents h)) ∧
      (∀ x ∈ pre (below e l) (k1.map (ents h)), lt x e) ∧ (∀ x ∈ post (above e l) (k2.map (ents h)), lt e x) ∧ Srt (ents h s) := by
  have hl : l = below e l ++ above e l := srt_not (srt_top hg hs) he
  have hlen := congrArg List.length hl
  rw [List.length_append] at hlen
  have hk : ks.length = l.length + 1 := hg.1
  have hlt : (below e l).length < ks.length := by
    have : l.length = (below e l).length + (above e l).length := hlen
    omega
  have hks : ks = ks.take (below e l).length ++ ks[(below e l).length] :: ks.drop ((below e l).length + 1) := by
    rw [← List.drop_eq_getElem_cons hlt, List.take_append_drop]
  have hkl : (ks.take (below e l).length).length = (below e l).length := by rw [List.length_take]; omega
  have he1 := ents_kid h a (below e l) (above e l) (ks.take (below e l).length) (ks.drop ((below e l).length + 1)) (ks[(below e l).length]) hkl
  rw [← hl, ← hks] at he1
  have hs1 := hs
  rw [he1] at hs1
  obtain ⟨p1, p2, p3⟩ := List.pairwise_append.1 hs1
  obtain ⟨p4, p5, p6⟩ := List.pairwise_append.1 p1
  exact ⟨_, _, _, hks, hkl, hl, by omega, he1, pre_lt _ _ p4 (fun x hx => (mem_below.1 hx).2), post_gt _ _ p2 (fun x hx => (mem_above.1 hx).2), p5⟩

/-! ### In memory -/
structure Tr (h : Nat) (w : World) (ω : Ow) (t : T) : Prop where
  laid : ∀ s ∈ subs h t, Node w ω s.a s.l (s.ks.map T.a)
  nodup : (addrs h t).Nodup
theorem Node.lt {w : World} {ω : Ow} {a : Nat} {l : List E} {ps : List Nat} (h : Node w ω a l ps) : a < w.heap.size := by obtain ⟨_, _, h⟩ := h; exact h.lt
theorem Tr.top {h : Nat} {w : World} {ω : Ow} {t : T} (ht : Tr h w ω t) : Node w ω t.a t.l (t.ks.map T.a) := ht.laid t (subs_self h t)
theorem Tr.lt {h : Nat} {w : World} {ω : Ow} {t : T} (ht : Tr h w ω t) {x : Nat} (hx : x ∈ addrs h t) : x < w.heap.size := by
  obtain ⟨s, hs, rfl⟩ := List.mem_map.1 hx
  exact (ht.laid s hs).lt
theorem Tr.kept {h : Nat} {S : Nat → Prop} {w w' : World} {ω ω' : Ow} {t : T} (ht : Tr h w ω t) (s : Stp S w ω w' ω') (hS : ∀ x ∈ addrs h t, ¬ S x) : Tr h w' ω' t :=
  ⟨fun k hk => (ht.laid k hk).kept s (hS k.a (List.mem_map_of_mem hk)), ht.nodup⟩
theorem Tr.below {B h : Nat} {w w' : World} {ω : Ow} {t : T} (ht : Tr h w ω t) (hok : Okw B w ω) (hb : Below w.heap.size w w') : Tr h w' ω t := ht.kept (Stp.of_below (S := fun _ => False) hok hb) fun _ _ h => h

def F (h : Nat) (ks : List T) : List Nat := (ks.map (addrs h)).flatten
theorem F_append (h : Nat) (a b : List T) : F h (a ++ b) = F h a ++ F h b := by simp [F]
theorem F_cons (h : Nat) (a : T) (b : List T) : F h (a :: b) = addrs h a ++ F h b := by simp [F]
theorem mem_F {h : Nat} {ks : List T} {x : Nat} : x ∈ F h ks ↔ ∃ k ∈ ks, x ∈ addrs h k := by
  unfold F
  rw [List.mem_flatten]
  constructor
  · rintro ⟨_, h1, h2⟩
    obtain ⟨k, hk, rfl⟩ := List.mem_map.1 h1
    exact ⟨k, hk, h2⟩
  · rintro ⟨k, hk, h2⟩
    exact ⟨_, List.mem_map_of_mem hk, h2⟩
theorem addrs_node (h a : Nat) (l : List E) (ks : List T) : addrs (h + 1) (.node a l ks) = a :: F h ks := addrs_succ h _
theorem addrs_zero (t : T) : addrs 0 t = [t.a] := rfl
theorem Tr.kid {h a : Nat} {l : List E} {k1 k2 : List T} {s : T} {w : World} {ω : Ow} (ht : Tr (h + 1) w ω (.node a l (k1 ++ s :: k2))) :
    Tr h w ω s ∧ (∀ x ∈ F h k1, x ∉ addrs h s) ∧ (∀ x ∈ F h k2, x ∉ addrs h s) ∧ a ∉ addrs h s := by
  have hn := ht.nodup
  rw [addrs_node, F_append, F_cons] at hn
  obtain ⟨n1, n2⟩ := List.nodup_cons.1 hn
  obtain ⟨n3, n4, n5⟩ := List.nodup_append.1 n2
  obtain ⟨n6, n7, n8⟩ := List.nodup_append.1 n4
  refine ⟨⟨fun k hk => ht.laid k (subs_kid (t := .node a l (k1 ++ s :: k2)) (k := s) (by show s ∈ k1 ++ s :: k2; simp) hk), n6⟩, fun x hx hs => n5 x hx x (List.mem_append_left _ hs) rfl, fun x hx hs => n8 x hs x hx rfl, fun h1 => n1 ?_⟩
  exact List.mem_append_right _ (List.mem_append_left _ h1)
/-- A tree out of its top and its kids. -/
theorem Tr.mk' {h a : Nat} {l : List E} {ks : List T} {w : World} {ω : Ow} (ha : Node w ω a l (ks.map T.a)) (hk : ∀ k ∈ ks, ∀ s ∈ subs h k, Node w ω s.a s.l (s.ks.map T.a)) (hn : (a :: F h ks).Nodup) : Tr (h + 1) w ω (.node a l ks) := by
  refine ⟨fun s hs => ?_, by rw [addrs_node]; exact hn⟩
  simp only [subs, List.mem_cons, List.mem_flatten, List.mem_map] at hs
  rcases hs with rfl | ⟨_, ⟨k, hk', rfl⟩, hs⟩
  · exact ha
  · exact hk k hk' s hs
theorem nodup_swap {a N : Nat} {X Y S S' : List Nat} (h : (a :: (X ++ (S ++ Y))).Nodup) (hS' : S'.Nodup) (hsub : ∀ x ∈ S', x ∈ S ∨ N ≤ x) (hlt : ∀ x ∈ a :: (X ++ (S ++ Y)), x < N) : (a :: (X ++ (S' ++ Y))).Nodup := by
  obtain ⟨n1, n2⟩ := List.nodup_cons.1 h
  obtain ⟨n3, n4, n5⟩ := List.nodup_append.1 n2
  obtain ⟨n6, n7, n8⟩ := List.nodup_append.1 n4
  have ha := hlt a (List.mem_cons_self ..)
  have hX : ∀ x ∈ X, x < N := fun x hx => hlt x (List.mem_cons_of_mem _ (List.mem_append_left _ hx))
  have hY : ∀ x ∈ Y, x < N := fun x hx => hlt x (List.mem_cons_of_mem _ (List.mem_append_right _ (List.mem_append_right _ hx)))
  refine List.nodup_cons.2 ⟨fun hm => ?_, List.nodup_append.2 ⟨n3, List.nodup_append.2 ⟨hS', n7, fun x hx y hy e => ?_⟩, fun x hx y hy e => ?_⟩⟩
  · rcases List.mem_append.1 hm with h1 | h1
    · exact n1 (List.mem_append_left _ h1)
    · rcases List.mem_append.1 h1 with h2 | h2
      · rcases hsub a h2 with h3 | h3
        · exact n1 (List.mem_append_right _ (List.mem_append_left _ h3))
        · omega
      · exact n1 (List.mem_append_right _ (List.mem_append_right _ h2))
  · subst e
    rcases hsub x hx with h3 | h3
    · exact n8 x h3 x hy rfl
    · have := hY x hy; omega
  · subst e
    rcases List.mem_append.1 hy with h2 | h2
    · rcases hsub x h2 with h3 | h3
      · exact n5 x hx x (List.mem_append_left _ h3) rfl
      · have := hX x hx; omega
    · exact n5 x hx x (List.mem_append_right _ h2) rfl

end Go.Proofs.Ytaoamkkgiiiejaa
