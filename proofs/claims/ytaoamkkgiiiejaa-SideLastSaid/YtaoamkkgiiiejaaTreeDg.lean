/- An entry is taken from below a node: the plain law; at a leaf. -/
import Derived.Test.YtaoamkkgiiiejaaTreeDf
import Derived.Test.YtaoamkkgiiiejaaTreeXg
namespace Go.Proofs.Ytaoamkkgiiiejaa
open Go.RowKit
set_option linter.unusedVariables false
attribute [local go_sem ↓] Go.wp_at_zero Go.wp_at_succ

/-- A tree with one entry less; its top has at most one less. -/
structure Shr (h : Nat) (t t' : T) (e : E) : Prop where
  addr : t'.a = t.a
  good : Good h t'
  ents : ents h t' = del e (ents h t)
  hi : t'.l.length ≤ t.l.length
  lo : t.l.length ≤ t'.l.length + 1
  keep : e ∉ Go.Proofs.Ytaoamkkgiiiejaa.ents h t → t'.l.length = t.l.length

def DelPost (B h : Nat) (t : T) (e : E) (w : World) (ω : Ow) (r : Ending) (w' : World) : Prop :=
  ∃ ω' t', r = .returned (.bool (decide (e ∈ ents h t))) ∧ Shr h t t' e ∧ Stp (· ∈ addrs h t) w ω w' ω' ∧ Okw B w' ω' ∧ Tr h w' ω' t' ∧ ∀ x ∈ addrs h t', x ∈ addrs h t

theorem leaf_cut {l : List E} {e : E} (hs : Srt l) (he : e ∈ l) : (below e l).length < l.length ∧ l.take (below e l).length ++ l.drop ((below e l).length + 1) = del e l := by
  have h1 := srt_mem hs he
  have hlen := congrArg List.length h1
  rw [List.length_append, List.length_cons] at hlen
  refine ⟨by omega, ?_⟩
  unfold del
  have e1 : l.take (below e l).length = below e l := by
    have h9 := List.take_left' (l₁ := below e l) (l₂ := e :: above e l) rfl
    rwa [← h1] at h9
  have e2 : l.drop ((below e l).length + 1) = above e l := by
    have h8 : l = (below e l ++ [e]) ++ above e l := by simpa using h1
    have h9 := List.drop_left' (l₁ := below e l ++ [e]) (l₂ := above e l) (i := (below e l).length + 1) (by simp)
    rwa [← h8] at h9
  rw [e1, e2]

set_option maxHeartbeats 2000000 in
set_option maxRecDepth 100000 in
theorem del_leaf (B : Nat) (e : E) (a : Nat) (l : List E) (ω : Ow) (w : World) (hl4 : l.length ≤ 4) (hs : Srt l) (hn : Node w ω a l []) (hok : Okw B w ω) (hB : B ≤ w.heap.size) :
    Calls Try.prog 31 #[.pointer (some ⟨a, 0, none⟩), .agg #[.string e.key, .int .i64 e.id]] w (fun r w' => ∃ ω', r = .returned (.bool (decide (e ∈ l))) ∧ Stp (· = a) w ω w' ω' ∧ Okw B w' ω' ∧ Node w' ω' a (del e l) []) := by
  obtain ⟨v, u, hn⟩ := hn
  obtain ⟨c0, c1, f0, f1⟩ := hn.cells
  obtain ⟨Al, cl, rfl, _, _⟩ := hn.lany
  obtain ⟨Ak, ck, rfl, _, _⟩ := hn.kany
  have hal := hn.lt
  have HS := hid_mk hs
  clear hs
  go_enter Try.func31, Try.ntmps31
  go_wp2_with fail
  have b0 : Below w.heap.size w (w.alloc (.cells #[.string e.key, .int .i64 e.id] 36)) := balloc _
  refine (find_any l e 0 a _ _ (keep_cell b0 c0) (hn.lst.below b0) HS.out (by omega)).mono ?_
  rintro r w1 ⟨rfl, b1⟩
  have b01 := bthen b0 b1
  have c1' := keep_cell b01 c1
  have c0' := keep_cell b01 c0
  have f0' := ((bcell b01).2 a 0 hal).trans f0
  have hn1 := hn.below hok b01
  by_cases he : e ∈ l
  · have HD : Hid (decide (e ∈ l) = true) := hid_mk (by simp [he])
    obtain ⟨K, hK⟩ : ∃ K, K = (below e l).length := ⟨_, rfl⟩
    obtain ⟨hKl, hcut⟩ := leaf_cut HS.out he
    rw [← hK] at hKl hcut ⊢
    have HC := hid_mk hcut
    have hK0 : (0 : Int) ≤ (K : Int) := by omega
    have hK4 : (K : Int) ≤ 4 := by omega
    rw [decide_eq_true he]
    have HN1 := hid_mk hn1
    have HRD : Hid (ecells (l.take K ++ l.drop (K + 1)) = (ecells l).take (K * 2) ++ (ecells l).drop ((K + 1) * 2)) := hid_mk (by rw [ecells_append, ecells_take, ecells_drop])
    clear c0 c1 f0 f1 hK hcut hn1 hn
    go_wp2_with fail
    refine (leaf_any a 0 ck Ak _ c1').mono ?_
    rintro r w1' ⟨rfl, rfl⟩
    go_wp2_with fail
    refine (deleteE_any 0 _ l.length K K ((K : Int) + 1) (ecells l) _ HN1.out.lst (ecells_one _) hKl (by omega) rfl rfl _ HRD).mono ?_
    rintro r w4 ⟨v4, rfl, hv4, m4⟩
    obtain ⟨A4, cap4, rfl, _, _, _⟩ := hv4.shape
    have row4 : Rw 0 w4 36 2 (.slice A4 (l.length - 1) cap4) (l.take K ++ l.drop (K + 1)).length (ecells (l.take K ++ l.drop (K + 1))) := by
      have e1 : (l.take K ++ l.drop (K + 1)).length = l.length - 1 := by simp; omega
      rw [e1]; exact hv4
    obtain ⟨ω4, hA4, s4, ok4⟩ := HN1.out.toList (hok.below b01) (by have := b01.size; omega) (Below.refl _ _) m4 row4
    rw [HC.out] at hA4
    have HR := hid_mk (And.intro ((Stp.of_below (S := (· = a)) hok b01).trans s4 (fun _ h => .inl h) hok.own) (And.intro ok4 hA4))
    have hao : ¬ own (.slice Al l.length cl) a := fun h9 => HN1.out.lst.ne HN1.out.blk (by decide) h9
    have d0 := m4.cell c0' hao
    have df0 := (m4.frozen (a := ⟨a, 0, none⟩) HN1.out.lt hao).trans f0'
    clear row4 s4 ok4 hA4 m4 hv4 hao
    go_wp2_with fail
    go_ret
    exact ⟨ω4, ret_bool HD.out.symm, HR.out.1, HR.out.2.1, HR.out.2.2⟩
  · have HD : Hid (decide (e ∈ l) = false) := hid_mk (by simp [he])
    have HA : Hid (del e l = l) := hid_mk (del_not HS.out he)
    have HN1 := hid_mk hn1
    rw [decide_eq_false he]
    clear c0 c1 f0 f1 hn1 hn
    go_wp2_with fail
    refine (leaf_any a 0 ck Ak _ c1').mono ?_
    rintro r w1' ⟨rfl, rfl⟩
    go_wp2_with fail
    go_ret
    exact ⟨ω, ret_bool HD.out.symm, Stp.of_below hok b01, hok.below b01, ⟨_, _, by rw [HA.out]; exact HN1.out⟩⟩

/-! ### Among kids: the plain law -/
theorem last_of {L : List E} (hs : Srt L) (h0 : L ≠ []) : (tl L).1 ∈ L ∧ del (tl L).1 L ++ [(tl L).1] = L ∧ (tl L).2 = true := by
  rcases List.eq_nil_or_concat L with rfl | ⟨M, x, rfl⟩
  · exact absurd rfl h0
  · have hx : tl (M.concat x) = (x, true) := by simp [tl]
    rw [hx]
    rw [List.concat_eq_append] at hs ⊢
    obtain ⟨h1, h2, h3⟩ := List.pairwise_append.1 hs
    refine ⟨by simp, ?_, rfl⟩
    unfold del
    rw [below_append, above_append, below_all (l := M) (fun y hy => h3 y hy x (by simp)), below_none (l := [x]) (fun y hy => .inr (by simpa using hy)), above_none (l := M) (fun y hy => .inl (h3 y hy x (by simp))), above_none (l := [x]) (fun y hy => .inr (by simpa using hy))]
    simp
theorem ents_ne {h : Nat} {s : T} (hg : Good h s) (h1 : 1 ≤ s.l.length) : ents h s ≠ [] := fun h0 => by
  have hlt : 0 < s.l.length := by omega
  have hm := mem_top hg (List.getElem_mem hlt)
  rw [h0] at hm; cases hm

/-- The entry is a node's own. -/
theorem ents_own {h : Nat} {a : Nat} {l : List E} {ks : List T} {e : E} (hg : Good (h + 1) (.node a l ks)) (hs : Srt (ents (h + 1) (.node a l ks))) (he : e ∈ l) :
    ∃ k1 s k2, ks = k1 ++ s :: k2 ∧ k1.length = (below e l).length ∧ (below e l).length < l.length ∧ Srt (ents h s) ∧ Good h s ∧
      ∀ g s', del g (ents h s) = ents h s' → del g (ents h s) ++ [g] = ents h s → ents (h + 1) (.node a (l.set (below e l).length g) (k1 ++ s' :: k2)) = del e (ents (h + 1) (.node a l ks)) := by
  have hst : Srt l := srt_top hg hs
  have hl : l = below e l ++ e :: above e l := srt_mem hst he
  obtain ⟨hK, _⟩ := leaf_cut hst he
  have hk : ks.length = l.length + 1 := hg.1
  obtain ⟨k1, s, k2, h1, h2, h3, h4, h5, h6⟩ := ents_split2 (s := .node a l ks) (below e l) (e :: above e l) hl hg
  have h1' : ks = k1 ++ s :: k2 := h1
  have hk2 : k2 ≠ [] := fun h9 => by rw [h9] at h3; simp at h3
  rw [h4] at hs
  obtain ⟨p1, p2, p3⟩ := srt_app3 hs
  refine ⟨k1, s, k2, h1', h2, hK, p2, h5, fun g s' hg1 hg2 => ?_⟩
  have hset : l.set (below e l).length g = below e l ++ g :: above e l := by
    rw [set_at l _ g hK]
    have e1 : l.take (below e l).length = below e l := by
      have h9 := List.take_left' (l₁ := below e l) (l₂ := e :: above e l) rfl
      rwa [← hl] at h9
    have e2 : l.drop ((below e l).length + 1) = above e l := by
      have h8 : l = (below e l ++ [e]) ++ above e l := by simpa using hl
      have h9 := List.drop_left' (l₁ := below e l ++ [e]) (l₂ := above e l) (i := (below e l).length + 1) (by simp)
      rwa [← h8] at h9
    rw [e1, e2]
  rw [hset, ents_kid h a (below e l) (g :: above e l) k1 k2 s' h2, ← hg1, h4]
  have hmap : k2.map (ents h) ≠ [] := by simpa using hk2
  rw [post_cons g _ _ hmap]
  rw [post_cons e _ _ hmap] at hs ⊢
  have q : ∀ x ∈ pre (below e l) (k1.map (ents h)) ++ ents h s, lt x e := fun x hx => (List.pairwise_append.1 hs).2.2 x hx e (by simp)
  have q2 : ∀ x ∈ inter (above e l) (k2.map (ents h)), lt e x := fun x hx => List.rel_of_pairwise_cons (List.pairwise_append.1 hs).2.1 hx
  unfold del
  rw [below_append, above_append, below_all q, above_none (fun x hx => .inl (q x hx))]
  have r1 : below e (e :: inter (above e l) (k2.map (ents h))) = [] := below_none fun x hx => by
    rcases List.mem_cons.1 hx with h9 | h9
    · exact .inr h9
    · exact .inl (q2 x h9)
  have r2 : above e (e :: inter (above e l) (k2.map (ents h))) = inter (above e l) (k2.map (ents h)) := by
    have h9 := above_all q2
    unfold above at h9 ⊢
    rw [List.filter_cons_of_neg (by simpa using lt_irrefl e), h9]
  rw [r1, r2]
  have hg3 : (List.filter (fun x => decide (lt x g)) (ents h s) ++ List.filter (fun x => decide (lt g x)) (ents h s)) ++ [g] = ents h s := hg2
  simp only [List.append_nil, List.nil_append]
  conv => rhs; rw [← hg2]
  unfold del
  simp

end Go.Proofs.Ytaoamkkgiiiejaa
