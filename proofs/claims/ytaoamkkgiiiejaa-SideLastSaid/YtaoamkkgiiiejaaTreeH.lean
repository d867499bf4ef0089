/- An entry is put below a node that has kids; into a tree. -/
import Derived.Test.YtaoamkkgiiiejaaTreeG
import Derived.Test.YtaoamkkgiiiejaaTreeQ
namespace Go.Proofs.Ytaoamkkgiiiejaa
open Go.RowKit
set_option linter.unusedVariables false
attribute [local go_sem ↓] Go.wp_at_zero Go.wp_at_succ

theorem take_drop_map (k1 : List T) (s : T) (k2 : List T) (n : Nat) : ((k1 ++ s :: k2).map T.a).take (k1.length + 1) ++ n :: ((k1 ++ s :: k2).map T.a).drop (k1.length + 1) = k1.map T.a ++ s.a :: n :: k2.map T.a := by
  have e : (k1 ++ s :: k2).map T.a = (k1.map T.a ++ [s.a]) ++ k2.map T.a := by simp
  rw [e, List.take_left' (by simp), List.drop_left' (by simp)]
  simp
theorem grew_small {h a : Nat} {e : E} {l : List E} {k1 k2 : List T} {s s' : T} (hg : Good (h + 1) (.node a l (k1 ++ s :: k2))) (hk : k1.length = (below e l).length) (hl : l = below e l ++ above e l)
    (hpre : ∀ x ∈ pre (below e l) (k1.map (ents h)), lt x e) (hpost : ∀ x ∈ post (above e l) (k2.map (ents h)), lt e x) (G : Grew h s s' e) (h4 : s'.l.length ≤ 4) :
    Grew (h + 1) (.node a l (k1 ++ s :: k2)) (.node a l (k1 ++ s' :: k2)) e := by
  have e1 := ents_kid h a (below e l) (above e l) k1 k2 s hk
  have e2 := ents_kid h a (below e l) (above e l) k1 k2 s' hk
  rw [← hl] at e1 e2
  have h2 := hg.2 s (show s ∈ k1 ++ s :: k2 by simp)
  refine ⟨rfl, ⟨by have := hg.1; simpa [T.ks, T.l] using this, fun k hk' => ?_⟩, ?_, Nat.le_refl _, Nat.le_succ _, fun _ => rfl⟩
  · rcases List.mem_append.1 hk' with h1 | h1
    · exact hg.2 k (List.mem_append_left _ h1)
    · rcases List.mem_cons.1 h1 with h3 | h3
      · subst h3
        exact ⟨G.good, by have := G.lo; omega, h4⟩
      · exact hg.2 k (List.mem_append_right _ (List.mem_cons_of_mem _ h3))
  · rw [e1, e2, G.ents, mid_add hpre hpost]
theorem grew_great {h a : Nat} {e : E} {l : List E} {k1 k2 : List T} {s s' : T} (n : Nat) (hg : Good (h + 1) (.node a l (k1 ++ s :: k2))) (hk : k1.length = (below e l).length) (hl : l = below e l ++ above e l)
    (hpre : ∀ x ∈ pre (below e l) (k1.map (ents h)), lt x e) (hpost : ∀ x ∈ post (above e l) (k2.map (ents h)), lt e x) (G : Grew h s s' e) (h5 : s'.l.length = 5) :
    Grew (h + 1) (.node a l (k1 ++ s :: k2)) (.node a (l.take k1.length ++ ge s'.l 2 :: l.drop k1.length) (k1 ++ .node s'.a (s'.l.take 2) (s'.ks.take 3) :: .node n (s'.l.drop 3) (s'.ks.drop 3) :: k2)) e := by
  have e1 := ents_kid h a (below e l) (above e l) k1 k2 s hk
  rw [← hl] at e1
  obtain ⟨p1, p2, p3⟩ := parted n G.good h5
  have hlk : k1.length ≤ l.length := by rw [hk]; exact List.length_filter_le _ _
  have ht : l.take k1.length = below e l := by
    have h9 := List.take_left' (l₁ := below e l) (l₂ := above e l) hk.symm
    rwa [← hl] at h9
  have hd : l.drop k1.length = above e l := by
    have h9 := List.drop_left' (l₁ := below e l) (l₂ := above e l) hk.symm
    rwa [← hl] at h9
  have e2 := ents_kids h a (below e l) (ge s'.l 2) (above e l) k1 k2 (.node s'.a (s'.l.take 2) (s'.ks.take 3)) (.node n (s'.l.drop 3) (s'.ks.drop 3)) hk
  have hlen : (l.take k1.length ++ ge s'.l 2 :: l.drop k1.length).length = l.length + 1 := ins_length _ _ _ hlk
  refine ⟨rfl, ⟨?_, fun k hk' => ?_⟩, ?_, ?_, ?_, fun he => ?_⟩
  · show (k1 ++ _ :: _ :: k2).length = (l.take k1.length ++ ge s'.l 2 :: l.drop k1.length).length + 1
    have h6 : (k1 ++ s :: k2).length = l.length + 1 := hg.1
    rw [hlen]
    simp only [List.length_append, List.length_cons] at h6 ⊢
    omega
  · rcases List.mem_append.1 hk' with h1 | h1
    · exact hg.2 k (List.mem_append_left _ h1)
    · rcases List.mem_cons.1 h1 with h3 | h3
      · subst h3
        exact ⟨p2, by show 2 ≤ (s'.l.take 2).length; simp; omega, by show (s'.l.take 2).length ≤ 4; simp; omega⟩
      · rcases List.mem_cons.1 h3 with h3 | h3
        · subst h3
          exact ⟨p3, by show 2 ≤ (s'.l.drop 3).length; simp; omega, by show (s'.l.drop 3).length ≤ 4; simp; omega⟩
        · exact hg.2 k (List.mem_append_right _ (List.mem_cons_of_mem _ h3))
  · rw [ht, hd, e2, ← p1, G.ents, e1, mid_add hpre hpost]
  · show l.length ≤ _; rw [show T.l (.node a (l.take k1.length ++ ge s'.l 2 :: l.drop k1.length) (k1 ++ .node s'.a (s'.l.take 2) (s'.ks.take 3) :: .node n (s'.l.drop 3) (s'.ks.drop 3) :: k2)) = l.take k1.length ++ ge s'.l 2 :: l.drop k1.length from rfl, hlen]; omega
  · show (l.take k1.length ++ ge s'.l 2 :: l.drop k1.length).length ≤ l.length + 1
    rw [hlen]; exact Nat.le_refl _
  · rw [e1, mid_mem hpre hpost] at he
    have h7 := G.keep he
    have h8 := (hg.2 s (show s ∈ k1 ++ s :: k2 by simp)).2.2
    omega

set_option maxHeartbeats 4000000 in
set_option maxRecDepth 100000 in
theorem add_inner (B : Nat) (e : E) (h : Nat) (ih : ∀ (t : T) (ω : Ow) (w : World), Good h t → t.l.length ≤ 4 → Srt (ents h t) → Tr h w ω t → Okw B w ω → B ≤ w.heap.size →
      Calls Try.prog 24 #[.pointer (some ⟨t.a, 0, none⟩), .agg #[.string e.key, .int .i64 e.id]] w (AddPost B h t e w ω))
    (a : Nat) (l : List E) (ks : List T) (ω : Ow) (w : World) (hg : Good (h + 1) (.node a l ks)) (hl4 : l.length ≤ 4) (hs : Srt (ents (h + 1) (.node a l ks))) (ht : Tr (h + 1) w ω (.node a l ks)) (hok : Okw B w ω) (hB : B ≤ w.heap.size) :
    Calls Try.prog 24 #[.pointer (some ⟨a, 0, none⟩), .agg #[.string e.key, .int .i64 e.id]] w (AddPost B (h + 1) (.node a l ks) e w ω) := by
  obtain ⟨v, u, hn⟩ : Node w ω a l (ks.map T.a) := ht.top
  obtain ⟨c0, c1, f0, f1⟩ := hn.cells
  obtain ⟨Al, cl, rfl, _, _⟩ := hn.lany
  have hst : Srt l := srt_top hg hs
  have hal := hn.lt
  have hkl : ks.length = l.length + 1 := hg.1
  obtain ⟨gk, kcap, rfl, hkc, hkm, hgk, hkcell⟩ := hn.kshape (by simp; omega)
  have HST := hid_mk hst
  have HG := hid_mk hg
  have HS := hid_mk hs
  have HTR := hid_mk ht
  have HKC := hid_mk hkcell
  obtain ⟨M, hM⟩ : ∃ M, M = (ks.map T.a).length := ⟨_, rfl⟩
  have HMl : Hid (M = l.length + 1) := hid_mk (by rw [hM, List.length_map]; exact hkl)
  rw [← hM] at c1 hkc
  have hm0 : ¬ M = 0 := by have := HMl.out; omega
  have hM5 : M ≤ 5 := by have := HMl.out; omega
  have hownu : ω gk = some a := hn.ownu gk rfl
  clear hs ht hkcell hg hst
  go_enter Try.func24, Try.ntmps24
  go_wp2_with fail
  have b0 : Below w.heap.size w (w.alloc (.cells #[.string e.key, .int .i64 e.id] 36)) := balloc _
  refine (find_any l e 0 a _ _ (keep_cell b0 c0) (hn.lst.below b0) HST.out (by omega)).mono ?_
  rintro r w1 ⟨rfl, b1⟩
  have b01 := bthen b0 b1
  have e0 : w1.cell? ⟨w.heap.size, 0, none⟩ = some (.string e.key) := keep_cell b1 (by go_simp)
  have e1 : w1.cell? ⟨w.heap.size, 1, none⟩ = some (.int .i64 e.id) := keep_cell b1 (by go_simp)
  have hz1 : w.heap.size < w1.heap.size := by have := b1.size; simp at this; omega
  have c1' := keep_cell b01 c1
  have hn1 := hn.below hok b01
  by_cases he : e ∈ l
  · have HM : Hid (e ∈ ents (h + 1) (.node a l ks)) := hid_mk (mem_top HG.out he)
    have HD : Hid (decide (e ∉ ents (h + 1) (.node a l ks)) = false) := hid_mk (by simp [HM.out])
    rw [decide_eq_true he]
    clear c0 c1 f0 f1 hM ih
    go_wp2_with fail
    go_ret
    exact ⟨ω, .node a l ks, ret_bool HD.out.symm, ⟨rfl, HG.out, by unfold add; rw [if_pos HM.out], Nat.le_refl _, Nat.le_succ _, fun _ => rfl⟩, Stp.of_below hok b01, hok.below b01, HTR.out.below hok b01, fun x hx => .inl hx⟩
  · rw [decide_eq_false he]
    clear c0 c1 f0 f1
    go_wp2_with fail
    refine (leaf_any a M kcap (some ⟨gk, 0, none⟩) _ c1').mono ?_
    rintro r w1' ⟨rfl, rfl⟩
    rw [decide_eq_false hm0]
    obtain ⟨k1, s, k2, hks, hk1, hleq, hle, hents, hpre, hpost, hsk⟩ := ents_split HG.out HS.out he
    subst hks
    obtain ⟨K, hK⟩ : ∃ K, K = (below e l).length := ⟨_, rfl⟩
    rw [← hK] at hk1 hle ⊢
    have hKM : K < M := by have := HMl.out; omega
    have kc : w.cell? ⟨gk, K, none⟩ = some (.pointer (some ⟨s.a, 0, none⟩)) := by
      rw [HKC.out K (by rw [← hM]; exact hKM)]
      have e9 : ((k1 ++ s :: k2).map T.a)[K]'(by rw [← hM]; exact hKM) = s.a := by
        simp [← hk1]
      rw [e9]
    have kc' := keep_cell b01 kc
    have hgs := HG.out.2 s (show s ∈ k1 ++ s :: k2 by simp)
    have T1 : Tr (h + 1) w1.drew ω (.node a l (k1 ++ s :: k2)) := (HTR.out.below hok b01).below (hok.below b01) (pw_below (n := 1) (Below.refl _ _))
    obtain ⟨tk, d1, d2, d3⟩ := T1.kid
    have ok1 : Okw B w1.drew ω := by have h9 := hok.below b01; exact h9
    have hB1 : B ≤ w1.drew.heap.size := by show B ≤ w1.heap.size; omega
    have hgk1 : gk < w1.heap.size := by omega
    have hal1 : a < w1.heap.size := by omega
    have hnone := hok.none (Nat.le_refl w.heap.size)
    have hK0 : (0 : Int) ≤ (K : Int) := by omega
    have hK1 : (K : Int) < (M : Int) := by omega
    have HDD : Hid (decide (e ∉ ents h s) = decide (e ∉ ents (h + 1) (.node a l (k1 ++ s :: k2)))) := hid_mk (by
      rw [hents, decide_eq_decide, mid_mem hpre hpost])
    have HT1 := hid_mk T1
    have HTK := hid_mk tk
    have HOK1 := hid_mk ok1
    have HSK := hid_mk hsk
    have HGS := hid_mk hgs
    have HK1 := hid_mk hk1
    have HKB := hid_mk hK
    have HLE := hid_mk hleq
    have HPRE := hid_mk hpre
    have HPOST := hid_mk hpost
    have HD3 := hid_mk d3
    have HNONE := hid_mk hnone
    have HOWN := hid_mk hownu
    have HN1 := hid_mk (show Nd w1.drew ω a _ _ l _ from hn1.below (hok.below b01) (pw_below (n := 1) (Below.refl _ _)))
    clear hents hk1 hK hM hleq hpre hpost hsk hgs tk d1 d2 d3 T1 ok1 hnone hownu kc hn1 hn
    go_wp2_with fail
    go_region_held3 (fun w' => w'.cell? ⟨a, 1, none⟩ = some (.slice (some ⟨gk, 0, none⟩) M kcap) ∧ w'.cell? ⟨gk, K, none⟩ = some (.pointer (some ⟨s.a, 0, none⟩)) ∧ w'.cell? ⟨w.heap.size, 0, none⟩ = some (.string e.key) ∧ w'.cell? ⟨w.heap.size, 1, none⟩ = some (.int .i64 e.id))
      ((first | go_keep | exact ⟨X1, X2, X3, X4⟩))
      ((go_at_call 24; refine (ih s ω _ HGS.out.1 HGS.out.2.2 HSK.out HTK.out HOK1.out hB1).mono ?_; rintro r w2 ⟨ω2, s', rfl, G, S2, ok2, T2, hA⟩;
        have X1 := (S2.cell (p := ⟨a, 1, none⟩) hal1 (fun x hx h9 => HD3.out (by have h8 := HN1.out.own0; rw [h8] at hx; injection hx with hx; rw [hx]; exact h9))).trans c1';
        have X2 := (S2.cell (p := ⟨gk, K, none⟩) hgk1 (fun x hx h9 => HD3.out (by have h8 := HOWN.out; rw [h8] at hx; injection hx with hx; rw [hx]; exact h9))).trans kc';
        have X3 := (S2.cell (p := ⟨w.heap.size, 0, none⟩) hz1 (fun x hx => by rw [HNONE.out] at hx; cases hx)).trans e0;
        have X4 := (S2.cell (p := ⟨w.heap.size, 1, none⟩) hz1 (fun x hx => by rw [HNONE.out] at hx; cases hx)).trans e1))
    go_wp2_with fail
    obtain ⟨T3, S3, A3⟩ := HT1.out.swap S2 T2 hA G.addr
    have Na := T3.top
    have Ns := T2.top
    have hne : a ≠ s'.a := fun e9 => T3.kid.2.2.2 (e9 ▸ addrs_self h s')
    have hml : (T.ks (.node a l (k1 ++ s' :: k2))).map T.a = k1.map T.a ++ s'.a :: k2.map T.a := by simp [T.ks]
    have hlen : (k1.map T.a ++ s'.a :: k2.map T.a).length = M := by
      have h9 : (k1 ++ s :: k2).length = l.length + 1 := HG.out.1
      rw [HMl.out, ← h9]; simp
    have hKp : K < (k1.map T.a ++ s'.a :: k2.map T.a).length := by rw [hlen]; exact hKM
    have hp : (k1.map T.a ++ s'.a :: k2.map T.a)[K] = s'.a := by simp [← HK1.out]
    rw [hml] at Na
    have Sw : Stp (· ∈ addrs (h + 1) (.node a l (k1 ++ s :: k2))) w ω w2 ω2 :=
      (Stp.of_below hok (b01.trans ((pw_below (n := 1) (Below.refl w.heap.size w1))))).trans S3 (fun _ h => .inl h) hok.own
    have HA3 : ∀ x ∈ addrs (h + 1) (.node a l (k1 ++ s' :: k2)), x ∈ addrs (h + 1) (.node a l (k1 ++ s :: k2)) ∨ w.heap.size ≤ x := fun x hx => (A3 x hx).imp id fun h9 => Nat.le_trans (Nat.le_of_lt hz1) h9
    have hs2 := Sw.size
    have hlo := HGS.out.2.2
    have hhi := G.hi
    clear X1 X2 X3 X4 c1' kc' e0 e1 S2 S3 A3 hA hml
    by_cases h5 : s'.l.length ≤ 4
    · have HR := hid_mk (grew_small HG.out (HK1.out.trans HKB.out) HLE.out HPRE.out HPOST.out G h5)
      refine (heal_small a s'.a K ω2 l s'.l _ _ _ Na Ns hKp hp h5).mono ?_
      rintro r w3 ⟨rfl, rfl⟩
      go_wp2_with fail
      go_ret
      exact ⟨ω2, _, ret_bool ((by simp : (!decide (e ∈ ents h s)) = decide (e ∉ ents h s)).trans HDD.out), HR.out, Sw, ok2, T3, HA3⟩
    · have h5' : s'.l.length = 5 := by omega
      have hpc : (s'.ks.map T.a).length = 0 ∨ (s'.ks.map T.a).length = 6 := by
        rw [List.length_map]
        have h9 := G.good
        cases h with
        | zero => exact .inl (by rw [show s'.ks = [] from h9]; rfl)
        | succ h => exact .inr (by have h8 : s'.ks.length = s'.l.length + 1 := h9.1; omega)
      have HR := fun n => grew_great n HG.out (HK1.out.trans HKB.out) HLE.out HPRE.out HPOST.out G h5'
      have HRR := hid_mk HR
      clear HR
      refine (heal_great B a s'.a K ω2 l s'.l _ (s'.ks.map T.a) _ Na Ns ok2 (by omega) ok2.own hKp hp hne h5' hpc (by omega) (by omega) (by omega)).mono ?_
      rintro r w3 ⟨rfl, n, ω3, hn, S4, ok3, Na3, Ns3, Nn3⟩
      have e9 : (k1.map T.a ++ s'.a :: k2.map T.a).take (K + 1) ++ n :: (k1.map T.a ++ s'.a :: k2.map T.a).drop (K + 1) = (k1 ++ .node s'.a (s'.l.take 2) (s'.ks.take 3) :: .node n (s'.l.drop 3) (s'.ks.drop 3) :: k2).map T.a := by
        have h8 := take_drop_map k1 s' k2 n
        rw [HK1.out] at h8
        simpa [T.a] using h8
      rw [e9] at Na3
      rw [← List.map_take] at Ns3
      rw [← List.map_drop] at Nn3
      obtain ⟨T4, S5, A5⟩ := T3.part hn S4 Na3 Ns3 Nn3
      have SX := hid_mk (Sw.trans S5 (fun x hx => HA3 x hx) hok.own)
      have AX := hid_mk (fun x hx => (A5 x hx).elim (fun h8 => HA3 x h8) (fun h8 => Or.inr (Nat.le_trans hs2 h8)) : ∀ x ∈ addrs (h + 1) _, x ∈ addrs (h + 1) (.node a l (k1 ++ s :: k2)) ∨ w.heap.size ≤ x)
      have HT4 := hid_mk T4
      have HO3 := hid_mk ok3
      clear T4 S5 A5 S4 ok3 Na3 Ns3 Nn3 e9 Na Ns T3 Sw HA3
      go_wp2_with fail
      go_ret
      have h7 := HRR.out n
      rw [HK1.out] at h7
      exact ⟨ω3, _, ret_bool ((by simp : (!decide (e ∈ ents h s)) = decide (e ∉ ents h s)).trans HDD.out), h7, SX.out, HO3.out, HT4.out, AX.out⟩

theorem add_any (B : Nat) (e : E) : ∀ (h : Nat) (t : T) (ω : Ow) (w : World), Good h t → t.l.length ≤ 4 → Srt (ents h t) → Tr h w ω t → Okw B w ω → B ≤ w.heap.size →
    Calls Try.prog 24 #[.pointer (some ⟨t.a, 0, none⟩), .agg #[.string e.key, .int .i64 e.id]] w (AddPost B h t e w ω)
  | 0, .node a l ks, ω, w, hg, hl4, hs, ht, hok, hB => by
    have hks : ks = [] := hg
    subst hks
    refine (add_leaf B e a l ω w hl4 hs ht.top hok hB).mono ?_
    rintro r w' ⟨ω', hr, S, ok', N⟩
    have hlen : (add e l).length = l.length ∨ (add e l).length = l.length + 1 := by
      by_cases he : e ∈ l
      · exact .inl (by unfold add; rw [if_pos he])
      · have hs' : Srt l := hs
        exact .inr (by rw [← leaf_ins hs' he]; exact ins_length l (below e l).length e (List.length_filter_le _ _))
    refine ⟨ω', .node a (add e l) [], hr, ⟨rfl, rfl, rfl, ?_, ?_, fun he => by have he' : e ∈ l := he; show (add e l).length = l.length; unfold add; rw [if_pos he']⟩, S.wider fun x hx => by rw [hx]; exact addrs_self 0 (.node a l []), ok', ⟨fun s hs => ?_, by simp [addrs, subs]⟩, fun x hx => .inl hx⟩
    · show l.length ≤ (add e l).length; omega
    · show (add e l).length ≤ l.length + 1; omega
    · have e9 : s = .node a (add e l) [] := by simpa [subs] using hs
      subst e9
      exact N
  | h + 1, .node a l ks, ω, w, hg, hl4, hs, ht, hok, hB => add_inner B e h (fun t ω w => add_any B e h t ω w) a l ks ω w hg hl4 hs ht hok hB

end Go.Proofs.Ytaoamkkgiiiejaa
