/- An entry is taken from below a node that has kids. -/
import Derived.Test.YtaoamkkgiiiejaaTreeDg
namespace Go.Proofs.Ytaoamkkgiiiejaa
open Go.RowKit
set_option linter.unusedVariables false
attribute [local go_sem ↓] Go.wp_at_zero Go.wp_at_succ

/-- What stands ahead of the taking from a kid: s is that kid, g the entry to be taken from below it. -/
structure Rdy (B h a K : Nat) (e : E) (l : List E) (ks : List T) (w : World) (ω : Ow) (b : Nat) (wx : World) (ω' : Ow) (l' : List E) (k1 : List T) (s : T) (k2 : List T) (g : E) : Prop where
  ks_ : ks = k1 ++ s :: k2
  at_ : k1.length = K
  len : l'.length = l.length
  srt : Srt (ents h s)
  stp : Stp (· ∈ addrs (h + 1) (.node a l ks)) w ω wx ω'
  ok : Okw B wx ω'
  tr : Tr (h + 1) wx ω' (.node a l' (k1 ++ s :: k2))
  b0 : wx.cell? ⟨b, 0, none⟩ = some (.string g.key)
  b1 : wx.cell? ⟨b, 1, none⟩ = some (.int .i64 g.id)
  bn : ω' b = none
  dec : decide (g ∈ ents h s) = decide (e ∈ ents (h + 1) (.node a l ks))
  fin : ∀ s', ents h s' = del g (ents h s) → ents (h + 1) (.node a l' (k1 ++ s' :: k2)) = del e (ents (h + 1) (.node a l ks))

theorem swap_sub {h a : Nat} {l l' : List E} {k1 k2 : List T} {s s' : T} (hs : ∀ x ∈ addrs h s', x ∈ addrs h s) : ∀ x ∈ addrs (h + 1) (.node a l' (k1 ++ s' :: k2)), x ∈ addrs (h + 1) (.node a l (k1 ++ s :: k2)) := by
  intro x hx
  rw [addrs_node, F_append, F_cons] at hx ⊢
  simp only [List.mem_cons, List.mem_append] at hx ⊢
  rcases hx with h1 | h1 | h1 | h1
  · exact .inl h1
  · exact .inr (.inl h1)
  · exact .inr (.inr (.inl (hs x h1)))
  · exact .inr (.inr (.inr h1))
theorem Tr.retop {h a : Nat} {l l' : List E} {ks : List T} {w w' : World} {ω ω' : Ow} (ht : Tr (h + 1) w ω (.node a l ks)) (s : Stp (· = a) w ω w' ω') (N : Node w' ω' a l' (ks.map T.a)) : Tr (h + 1) w' ω' (.node a l' ks) :=
  (ht.re (k1 := []) (mid := []) (mid' := []) (k2 := ks) s (fun x hx => .inl hx) N (fun m hm => by cases hm) [] (List.Perm.refl _)).1

set_option maxHeartbeats 4000000 in
set_option maxRecDepth 100000 in
theorem del_inner (B : Nat) (e : E) (h : Nat) (ih : ∀ (e : E) (t : T) (ω : Ow) (w : World), Good h t → t.l.length ≤ 4 → (h ≠ 0 → 1 ≤ t.l.length) → Srt (ents h t) → Tr h w ω t → Okw B w ω → B ≤ w.heap.size →
      Calls Try.prog 31 #[.pointer (some ⟨t.a, 0, none⟩), .agg #[.string e.key, .int .i64 e.id]] w (DelPost B h t e w ω))
    (a : Nat) (l : List E) (ks : List T) (ω : Ow) (w : World) (hg : Good (h + 1) (.node a l ks)) (hl4 : l.length ≤ 4) (hl1 : 1 ≤ l.length) (hs : Srt (ents (h + 1) (.node a l ks))) (ht : Tr (h + 1) w ω (.node a l ks)) (hok : Okw B w ω) (hB : B ≤ w.heap.size) :
    Calls Try.prog 31 #[.pointer (some ⟨a, 0, none⟩), .agg #[.string e.key, .int .i64 e.id]] w (DelPost B (h + 1) (.node a l ks) e w ω) := by
  obtain ⟨v, u, hn⟩ : Node w ω a l (ks.map T.a) := ht.top
  obtain ⟨c0, c1, f0, f1⟩ := hn.cells
  have hst : Srt l := srt_top hg hs
  have hal := hn.lt
  have hkl : ks.length = l.length + 1 := hg.1
  obtain ⟨gl, cl, rfl, _, _, _, _⟩ := hn.lshape hl1
  obtain ⟨gk, kcap, rfl, hkc, hkm, hgk, hkcell⟩ := hn.kshape (by simp; omega)
  have HST := hid_mk hst
  have HG := hid_mk hg
  have HS := hid_mk hs
  have HTR := hid_mk ht
  have HKC := hid_mk hkcell
  obtain ⟨M, hM⟩ : ∃ M, M = (ks.map T.a).length := ⟨_, rfl⟩
  have HM := hid_mk hM
  have HMl : Hid (M = l.length + 1) := hid_mk (by rw [hM, List.length_map]; exact hkl)
  rw [← hM] at c1 hkc
  have hm0 : ¬ M = 0 := by have := HMl.out; omega
  have hM5 : M ≤ 5 := by have := HMl.out; omega
  clear hs ht hkcell hg hst
  go_enter Try.func31, Try.ntmps31
  go_wp2_with fail
  have b0 : Below w.heap.size w (w.alloc (.cells #[.string e.key, .int .i64 e.id] 36)) := balloc _
  refine (find_any l e 0 a _ _ (keep_cell b0 c0) (hn.lst.below b0) HST.out (by omega)).mono ?_
  rintro r w1 ⟨rfl, b1⟩
  have b01 := bthen b0 b1
  have e0 : w1.cell? ⟨w.heap.size, 0, none⟩ = some (.string e.key) := keep_cell b1 (by go_simp)
  have e1 : w1.cell? ⟨w.heap.size, 1, none⟩ = some (.int .i64 e.id) := keep_cell b1 (by go_simp)
  have hz1 : w.heap.size < w1.heap.size := by have := b1.size; simp at this; omega
  have x0 : w1.frozen? ⟨w.heap.size, 0, none⟩ = false := ((bcell b1).2 _ 0 (by simp)).trans (by go_simp)
  have x1 : w1.frozen? ⟨w.heap.size, 1, none⟩ = false := ((bcell b1).2 _ 1 (by simp)).trans (by go_simp)
  have c1' := keep_cell b01 c1
  have hn1 := hn.below hok b01
  have hnone := hok.none (Nat.le_refl w.heap.size)
  obtain ⟨K, hK⟩ : ∃ K, K = (below e l).length := ⟨_, rfl⟩
  rw [← hK]
  have HKB := hid_mk hK
  clear hM hK
  by_cases he : e ∈ l
  · have HHE := hid_mk he
    rw [decide_eq_true he]
    clear c0 c1 f0 f1
    go_wp2_with fail
    refine (leaf_any a M kcap (some ⟨gk, 0, none⟩) _ c1').mono ?_
    rintro r w1' ⟨rfl, rfl⟩
    rw [decide_eq_false hm0]
    obtain ⟨k1, s, k2, hks, hk1, hKl, hsrt, hgs, hfin⟩ := ents_own HG.out HS.out HHE.out
    rw [← HKB.out] at hk1 hKl hfin
    have hsm : s ∈ ks := by rw [hks]; simp
    have hs2 := (HG.out.2 s hsm).2
    obtain ⟨g, hgdef⟩ : ∃ g, g = (tl (ents h s)).1 := ⟨_, rfl⟩
    obtain ⟨q1, q2, q3⟩ := last_of hsrt (ents_ne hgs (by omega))
    rw [← hgdef] at q1 q2
    have HQ1 := hid_mk q1
    have HQ2 := hid_mk q2
    have HFIN := hid_mk hfin
    have HGD := hid_mk hgdef
    have HSRT := hid_mk hsrt
    have T1 := HTR.out.below hok b01
    have tk : Tr h w1 ω s := ⟨fun q hq => T1.laid q (subs_kid (t := .node a l ks) (k := s) hsm hq), by
      have h9 := T1
      rw [hks] at h9
      exact h9.kid.1.nodup⟩
    have HTK := hid_mk tk
    have hKM : K < M := by have := HMl.out; omega
    have kc : w.cell? ⟨gk, K, none⟩ = some (.pointer (some ⟨s.a, 0, none⟩)) := by
      rw [HKC.out K (by rw [← HM.out]; exact hKM)]
      have e9 : (ks.map T.a)[K]'(by rw [← HM.out]; exact hKM) = s.a := by
        simp [hks, ← hk1]
      rw [e9]
    have kc' := keep_cell b01 kc
    have hK0 : (0 : Int) ≤ (K : Int) := by omega
    have hK1 : (K : Int) < (M : Int) := by omega
    have hK2 : (K : Int) < (l.length : Int) := by omega
    have HKS := hid_mk hks
    have HK1 := hid_mk hk1
    have HN1 := hid_mk hn1
    have HOK1 := hid_mk (hok.below b01)
    clear kc q1 q2 q3 hfin hgdef hsrt tk hn1 hn T1 hks hk1 he hgs
    go_wp2_with fail
    refine (greatest_any B h s ω _ (HG.out.2 s hsm).1 (by omega) HTK.out HOK1.out).mono ?_
    rintro r w2 ⟨rfl, b2⟩
    rw [← HGD.out]
    have e0' := keep_cell b2 e0
    have e1' := keep_cell b2 e1
    have x0' := ((bcell b2).2 w.heap.size 0 hz1).trans x0
    have x1' := ((bcell b2).2 w.heap.size 1 hz1).trans x1
    have hz2 : w.heap.size < w2.heap.size := by have := b2.size; omega
    have N2 := ((HN1.out.below HOK1.out b2).put (p := ⟨w.heap.size, 0, none⟩) hnone (.string g.key)).put (p := ⟨w.heap.size, 1, none⟩) hnone (.int .i64 g.id)
    have T2 := (((HTR.out.below hok b01).below HOK1.out b2).put (q := ⟨w.heap.size, 0, none⟩) hnone (.string g.key)).put (q := ⟨w.heap.size, 1, none⟩) hnone (.int .i64 g.id)
    have ok2 := ((HOK1.out.below b2).put ⟨w.heap.size, 0, none⟩ (.string g.key)).put ⟨w.heap.size, 1, none⟩ (.int .i64 g.id)
    have S2 : Stp (· ∈ addrs (h + 1) (.node a l ks)) w ω ((w2.setCell ⟨w.heap.size, 0, none⟩ (.string g.key)).setCell ⟨w.heap.size, 1, none⟩ (.int .i64 g.id)) ω := ((Stp.of_below hok (bthen b01 b2)).put (Nat.le_refl _) _).put (Nat.le_refl _) _
    have HN2 := hid_mk N2
    have HT2 := hid_mk T2
    have HOK2 := hid_mk ok2
    have HS2 := hid_mk S2
    clear e0 e1 x0 x1 c1' kc' N2 T2 ok2 S2
    go_wp2_with fail
    obtain ⟨W7, hW7⟩ : ∃ W7, W7 = (w2.setCell ⟨w.heap.size, 0, none⟩ (.string g.key)).setCell ⟨w.heap.size, 1, none⟩ (.int .i64 g.id) := ⟨_, rfl⟩
    have y0 : W7.cell? ⟨w.heap.size, 0, none⟩ = some (.string g.key) := by rw [hW7]; go_simp
    have y1 : W7.cell? ⟨w.heap.size, 1, none⟩ = some (.int .i64 g.id) := by rw [hW7]; go_simp
    have hz7 : w.heap.size < W7.heap.size := by rw [hW7]; simpa using hz2
    rw [← hW7] at HN2 HT2 HOK2 HS2 ⊢
    obtain ⟨d0, d1, df0, df1⟩ := HN2.out.cells
    obtain ⟨gl', cl', eq9, _, _, hgl7, hlcell⟩ := HN2.out.lshape (by omega)
    injection eq9 with eq91 eq92 eq93
    injection eq91 with eq94
    injection eq94 with eq95
    subst eq95
    obtain ⟨z0, z1⟩ := hlcell K (by omega)
    have zf0 := HN2.out.lfree (K * 2)
    have zf1 := HN2.out.lfree (K * 2 + 1)
    have HSE := hid_mk (HN2.out.setEnt HOK2.out hKl g)
    clear hW7 e0' e1' x0' x1' hlcell eq92 eq93
    go_cut [] (fun wx => ∃ ω' l' k1 s k2 g, Rdy B h a K e l ks w ω w.heap.size wx ω' l' k1 s k2 g)
    case first =>
      go_region
      all_goals
        have SE := HSE.out
        obtain ⟨SE1, SE2, SE3⟩ := SE
        have bd : Below ((W7.setCell ⟨gl, K * 2, none⟩ (.string g.key)).setCell ⟨gl, K * 2 + 1, none⟩ (.int .i64 g.id)).heap.size ((W7.setCell ⟨gl, K * 2, none⟩ (.string g.key)).setCell ⟨gl, K * 2 + 1, none⟩ (.int .i64 g.id)) ((W7.setCell ⟨gl, K * 2, none⟩ (.string g.key)).setCell ⟨gl, K * 2 + 1, none⟩ (.int .i64 g.id)).drew := pw_below (n := 1) (Below.refl _ _)
        have TT := HT2.out.retop SE2 ⟨_, _, SE1⟩
        have HR : Hid (Rdy B h a K e l ks w ω w.heap.size ((W7.setCell ⟨gl, K * 2, none⟩ (.string g.key)).setCell ⟨gl, K * 2 + 1, none⟩ (.int .i64 g.id)).drew ω (l.set K g) k1 s k2 g) := by
          refine hid_mk ⟨HKS.out, HK1.out, by rw [List.length_set], HSRT.out, ?_, SE3.below bd, ?_, ?_, ?_, hnone, ?_, ?_⟩
          · exact ((HS2.out.trans SE2 (fun x hx => .inl (by rw [hx]; exact addrs_self (h + 1) (.node a l ks))) hok.own)).drew (n := 1)
          · rw [← HKS.out]; exact TT.below SE3 bd
          · exact (SE2.cell (p := ⟨w.heap.size, 0, none⟩) hz7 (fun x hx => by rw [hnone] at hx; cases hx)).trans y0
          · exact (SE2.cell (p := ⟨w.heap.size, 1, none⟩) hz7 (fun x hx => by rw [hnone] at hx; cases hx)).trans y1
          · rw [decide_eq_true HQ1.out, decide_eq_true (mem_top HG.out HHE.out)]
          · exact fun s' hs' => HFIN.out g s' hs'.symm HQ2.out
        clear SE1 SE2 SE3 bd TT
        go_wp2_with fail
        go_meet
        case rel => exact ⟨_, _, _, _, _, _, HR.out⟩
    case rest =>
      have HR := hid_mk hcut
      clear hcut HSE HT2 HN2 HOK2 HS2 y0 y1 d0 d1 df0 df1 z0 z1 zf0 zf1 HFIN HQ1 HQ2 HGD HSRT HKS HK1 HN1 HOK1 HHE hsm hs2 hKl HTK b2
      obtain ⟨ω9, l', k1, s, k2, g, R⟩ := HR.out
      have hks : ks.length = k1.length + k2.length + 1 := by rw [R.ks_]; simp; omega
      have hkl9 : (k1 ++ s :: k2).length = l'.length + 1 := by rw [← R.ks_, R.len]; exact HG.out.1
      have hgs := HG.out.2 s (show s ∈ ks by rw [R.ks_]; simp)
      have hall : ∀ k ∈ k1 ++ k2, Good h k ∧ 2 ≤ k.l.length ∧ k.l.length ≤ 4 := fun k hk => HG.out.2 k (show k ∈ ks by rw [R.ks_]; simp only [List.mem_append, List.mem_cons] at hk ⊢; rcases hk with h9 | h9 <;> simp [h9])
      have N9 : Node wc ω9 a l' ((k1 ++ s :: k2).map T.a) := R.tr.top
      obtain ⟨v9, u9, N9⟩ := N9
      have hps : ((k1 ++ s :: k2).map T.a).length = M := by rw [List.length_map, hkl9, R.len]; exact HMl.out.symm
      obtain ⟨gk9, kcap9, rfl, hkc9, hkm9, hgk9, hkcell⟩ := N9.kshape (by omega)
      obtain ⟨a0, a1, af0, af1⟩ := N9.cells
      rw [hps] at a1 hkc9
      have hKM : K < M := by have h8 := R.at_; have h7 := HMl.out; have h6 : ks.length = l.length + 1 := HG.out.1; omega
      have kc9 : wc.cell? ⟨gk9, K, none⟩ = some (.pointer (some ⟨s.a, 0, none⟩)) := by
        rw [hkcell K (by rw [hps]; exact hKM)]
        have e9 : ((k1 ++ s :: k2).map T.a)[K]'(by rw [hps]; exact hKM) = s.a := by
          simp [← R.at_]
        rw [e9]
      have bd9 : Below wc.heap.size wc wc.drew := pw_below (n := 1) (Below.refl _ _)
      have T9 : Tr (h + 1) wc.drew ω9 (.node a l' (k1 ++ s :: k2)) := R.tr.below R.ok bd9
      obtain ⟨tk9, d1, d2, d3⟩ := T9.kid
      have ok9 : Okw B wc.drew ω9 := R.ok.below bd9
      have hBc : B ≤ wc.drew.heap.size := Nat.le_trans hB R.stp.size
      have halc : a < wc.heap.size := N9.lt
      have hzc := World.block_lt_of_cell? wc _ R.b0
      have hbn := R.bn
      have y0 := R.b0
      have y1 := R.b1
      have hK0 : (0 : Int) ≤ (K : Int) := by omega
      have hK1 : (K : Int) < (M : Int) := by omega
      have HOWN := hid_mk (N9.ownu gk9 rfl)
      have HOWN0 := hid_mk N9.own0
      have HD3 := hid_mk d3
      have HT9 := hid_mk T9
      have HTK := hid_mk tk9
      have HOK9 := hid_mk ok9
      have HBN := hid_mk hbn
      have HPS := hid_mk hps
      have HKL := hid_mk hkl9
      have HR9 := hid_mk R
      have HAL := hid_mk hall
      have HGS := hid_mk hgs
      have HSIZE := hid_mk hks
      clear hkcell d1 d2 d3 T9 tk9 ok9 hbn hps hkl9 hall hgs hks R N9 HR af0 af1 a0
      go_wp2_with fail
      go_region_held3 (fun w' => w'.cell? ⟨a, 1, none⟩ = some (.slice (some ⟨gk9, 0, none⟩) M kcap9) ∧ w'.cell? ⟨gk9, K, none⟩ = some (.pointer (some ⟨s.a, 0, none⟩)) ∧ w'.cell? ⟨w.heap.size, 0, none⟩ = some (.string g.key) ∧ w'.cell? ⟨w.heap.size, 1, none⟩ = some (.int .i64 g.id))
        ((first | go_keep | exact ⟨X1, X2, X3, X4⟩))
        ((go_at_call 31; refine (ih g s ω9 _ HGS.out.1 HGS.out.2.2 (fun _ => by have := HGS.out.2.1; omega) HR9.out.srt HTK.out HOK9.out hBc).mono ?_; rintro r w2 ⟨ω2, s', rfl, G, S2, ok2, T2, hA⟩;
          have X1 := (S2.cell (p := ⟨a, 1, none⟩) halc (fun x hx h9 => HD3.out (by have h8 := HOWN0.out; rw [h8] at hx; injection hx with hx; rw [hx]; exact h9))).trans a1;
          have X2 := (S2.cell (p := ⟨gk9, K, none⟩) hgk9 (fun x hx h9 => HD3.out (by have h8 := HOWN.out; rw [h8] at hx; injection hx with hx; rw [hx]; exact h9))).trans kc9;
          have X3 := (S2.cell (p := ⟨w.heap.size, 0, none⟩) hzc (fun x hx => by rw [HBN.out] at hx; cases hx)).trans y0;
          have X4 := (S2.cell (p := ⟨w.heap.size, 1, none⟩) hzc (fun x hx => by rw [HBN.out] at hx; cases hx)).trans y1))
      go_wp2_with fail
      obtain ⟨T3, S3, _⟩ := HT9.out.swap S2 T2 (fun x hx => .inl (hA x hx)) G.addr
      have A3 := swap_sub (a := a) (l := l') (l' := l') (k1 := k1) (k2 := k2) hA
      have HFILL := fill_tree B h a K l' k1 k2 s' ω2 w2 T3 HR9.out.at_ (by have h8 := HKL.out; simp only [List.length_append, List.length_cons] at h8 ⊢; exact h8) HAL.out G.good (by have h8 := G.lo; have h9 := HGS.out.2.1; omega) (by have h8 := G.hi; have h9 := HGS.out.2.2; omega) (by have h8 := HR9.out.len; omega) (by have h8 := HR9.out.len; omega) ok2 (Nat.le_trans hBc S3.size)
      have hmono : ∀ x ∈ addrs (h + 1) (.node a l' (k1 ++ s' :: k2)), x ∈ addrs (h + 1) (.node a l ks) := fun x hx => by
        have h8 := A3 x hx
        rw [addrs_node, ← HR9.out.ks_] at h8
        rw [addrs_node]; exact h8
      have SW2 : Stp (· ∈ addrs (h + 1) (.node a l ks)) w ω w2 ω2 := ((HR9.out.stp.drew (n := 1))).trans S3 (fun x hx => .inl (by rw [addrs_node, ← HR9.out.ks_] at hx; rw [addrs_node]; exact hx)) hok.own
      have hfinE := HR9.out.fin s' G.ents
      have HKEEP : Hid (e ∉ ents (h + 1) (.node a l ks) → ¬ s'.l.length < 2) := hid_mk fun h8 => by
        have h9 : g ∉ ents h s := by
          have := HR9.out.dec
          rw [decide_eq_false h8] at this
          exact of_decide_eq_false this
        have h7 := G.keep h9
        have h6 := HGS.out.2.1
        omega
      have HLEN : Hid (l'.length = l.length) := hid_mk HR9.out.len
      have HDEC := hid_mk HR9.out.dec
      have HFE := hid_mk hfinE
      have HSW := hid_mk SW2
      have HMONO := hid_mk hmono
      clear X1 X2 X3 X4 a1 kc9 y0 y1 S2 S3 A3 hA hmono hfinE SW2 T3 T2 G HR9 HT9 HTK HOK9
      refine HFILL.mono ?_
      rintro r w3 ⟨rfl, ω3, t3, z1, z2, z3, z4, z5, z6, z7, z8, z9, z10⟩
      have HZ : Hid (DelPost B (h + 1) (.node a l ks) e w ω (.returned (.bool (decide (g ∈ ents h s)))) w3) := hid_mk ⟨ω3, t3, ret_bool HDEC.out, ⟨z1, z2, z3.trans HFE.out, by rw [show T.l (.node a l ks) = l from rfl, ← HLEN.out]; exact z4, by rw [show T.l (.node a l ks) = l from rfl, ← HLEN.out]; exact z5, fun h8 => by rw [show T.l (.node a l ks) = l from rfl, ← HLEN.out]; exact z6 (HKEEP.out h8)⟩, HSW.out.trans z7 (fun x hx => .inl (HMONO.out x hx)) hok.own, z8, z9, fun x hx => HMONO.out x (z10 x hx)⟩
      clear z1 z2 z3 z4 z5 z6 z7 z8 z9 z10 HFILL
      go_wp2_with fail
      go_ret
      exact HZ.out
  · have HHE := hid_mk he
    rw [decide_eq_false he]
    clear c0 c1 f0 f1
    go_wp2_with fail
    refine (leaf_any a M kcap (some ⟨gk, 0, none⟩) _ c1').mono ?_
    rintro r w1' ⟨rfl, rfl⟩
    rw [decide_eq_false hm0]
    obtain ⟨k1, s, k2, hks, hk1, hleq, hle, hents, hpre, hpost, hsk⟩ := ents_split HG.out HS.out he
    have HR : Hid (∃ ω' l' k1 s k2 g, Rdy B h a K e l ks w ω w.heap.size w1 ω' l' k1 s k2 g) := by
      refine hid_mk ⟨ω, l, k1, s, k2, e, hks, hk1.trans HKB.out.symm, rfl, hsk, Stp.of_below hok b01, hok.below b01, ?_, e0, e1, hnone, ?_, ?_⟩
      · rw [← hks]; exact HTR.out.below hok b01
      · rw [hents, decide_eq_decide, mid_mem hpre hpost]
      · intro s' hs'
        have h8 := ents_kid h a (below e l) (above e l) k1 k2 s' hk1
        rw [← hleq] at h8
        rw [h8, hs', hents, mid_del hpre hpost]
    obtain ⟨wc, hwc⟩ : ∃ wc, wc = w1 := ⟨_, rfl⟩
    rw [← hwc] at HR ⊢
    clear hks hk1 hleq hle hents hpre hpost hsk hwc HHE he e0 e1 x0 x1 c1' hn1 hn
    obtain ⟨ω9, l', k1, s, k2, g, R⟩ := HR.out
    have hks : ks.length = k1.length + k2.length + 1 := by rw [R.ks_]; simp; omega
    have hkl9 : (k1 ++ s :: k2).length = l'.length + 1 := by rw [← R.ks_, R.len]; exact HG.out.1
    have hgs := HG.out.2 s (show s ∈ ks by rw [R.ks_]; simp)
    have hall : ∀ k ∈ k1 ++ k2, Good h k ∧ 2 ≤ k.l.length ∧ k.l.length ≤ 4 := fun k hk => HG.out.2 k (show k ∈ ks by rw [R.ks_]; simp only [List.mem_append, List.mem_cons] at hk ⊢; rcases hk with h9 | h9 <;> simp [h9])
    have N9 : Node wc ω9 a l' ((k1 ++ s :: k2).map T.a) := R.tr.top
    obtain ⟨v9, u9, N9⟩ := N9
    have hps : ((k1 ++ s :: k2).map T.a).length = M := by rw [List.length_map, hkl9, R.len]; exact HMl.out.symm
    obtain ⟨gk9, kcap9, rfl, hkc9, hkm9, hgk9, hkcell⟩ := N9.kshape (by omega)
    obtain ⟨a0, a1, af0, af1⟩ := N9.cells
    rw [hps] at a1 hkc9
    have hKM : K < M := by have h8 := R.at_; have h7 := HMl.out; have h6 : ks.length = l.length + 1 := HG.out.1; omega
    have kc9 : wc.cell? ⟨gk9, K, none⟩ = some (.pointer (some ⟨s.a, 0, none⟩)) := by
      rw [hkcell K (by rw [hps]; exact hKM)]
      have e9 : ((k1 ++ s :: k2).map T.a)[K]'(by rw [hps]; exact hKM) = s.a := by
        simp [← R.at_]
      rw [e9]
    have bd9 : Below wc.heap.size wc wc.drew := pw_below (n := 1) (Below.refl _ _)
    have T9 : Tr (h + 1) wc.drew ω9 (.node a l' (k1 ++ s :: k2)) := R.tr.below R.ok bd9
    obtain ⟨tk9, d1, d2, d3⟩ := T9.kid
    have ok9 : Okw B wc.drew ω9 := R.ok.below bd9
    have hBc : B ≤ wc.drew.heap.size := Nat.le_trans hB R.stp.size
    have halc : a < wc.heap.size := N9.lt
    have hzc := World.block_lt_of_cell? wc _ R.b0
    have hbn := R.bn
    have y0 := R.b0
    have y1 := R.b1
    have hK0 : (0 : Int) ≤ (K : Int) := by omega
    have hK1 : (K : Int) < (M : Int) := by omega
    have HOWN := hid_mk (N9.ownu gk9 rfl)
    have HOWN0 := hid_mk N9.own0
    have HD3 := hid_mk d3
    have HT9 := hid_mk T9
    have HTK := hid_mk tk9
    have HOK9 := hid_mk ok9
    have HBN := hid_mk hbn
    have HPS := hid_mk hps
    have HKL := hid_mk hkl9
    have HR9 := hid_mk R
    have HAL := hid_mk hall
    have HGS := hid_mk hgs
    have HSIZE := hid_mk hks
    clear hkcell d1 d2 d3 T9 tk9 ok9 hbn hps hkl9 hall hgs hks R N9 HR af0 af1 a0
    go_wp2_with fail
    go_region_held3 (fun w' => w'.cell? ⟨a, 1, none⟩ = some (.slice (some ⟨gk9, 0, none⟩) M kcap9) ∧ w'.cell? ⟨gk9, K, none⟩ = some (.pointer (some ⟨s.a, 0, none⟩)) ∧ w'.cell? ⟨w.heap.size, 0, none⟩ = some (.string g.key) ∧ w'.cell? ⟨w.heap.size, 1, none⟩ = some (.int .i64 g.id))
      ((first | go_keep | exact ⟨X1, X2, X3, X4⟩))
      ((go_at_call 31; refine (ih g s ω9 _ HGS.out.1 HGS.out.2.2 (fun _ => by have := HGS.out.2.1; omega) HR9.out.srt HTK.out HOK9.out hBc).mono ?_; rintro r w2 ⟨ω2, s', rfl, G, S2, ok2, T2, hA⟩;
        have X1 := (S2.cell (p := ⟨a, 1, none⟩) halc (fun x hx h9 => HD3.out (by have h8 := HOWN0.out; rw [h8] at hx; injection hx with hx; rw [hx]; exact h9))).trans a1;
        have X2 := (S2.cell (p := ⟨gk9, K, none⟩) hgk9 (fun x hx h9 => HD3.out (by have h8 := HOWN.out; rw [h8] at hx; injection hx with hx; rw [hx]; exact h9))).trans kc9;
        have X3 := (S2.cell (p := ⟨w.heap.size, 0, none⟩) hzc (fun x hx => by rw [HBN.out] at hx; cases hx)).trans y0;
        have X4 := (S2.cell (p := ⟨w.heap.size, 1, none⟩) hzc (fun x hx => by rw [HBN.out] at hx; cases hx)).trans y1))
    go_wp2_with fail
    obtain ⟨T3, S3, _⟩ := HT9.out.swap S2 T2 (fun x hx => .inl (hA x hx)) G.addr
    have A3 := swap_sub (a := a) (l := l') (l' := l') (k1 := k1) (k2 := k2) hA
    have HFILL := fill_tree B h a K l' k1 k2 s' ω2 w2 T3 HR9.out.at_ (by have h8 := HKL.out; simp only [List.length_append, List.length_cons] at h8 ⊢; exact h8) HAL.out G.good (by have h8 := G.lo; have h9 := HGS.out.2.1; omega) (by have h8 := G.hi; have h9 := HGS.out.2.2; omega) (by have h8 := HR9.out.len; omega) (by have h8 := HR9.out.len; omega) ok2 (Nat.le_trans hBc S3.size)
    have hmono : ∀ x ∈ addrs (h + 1) (.node a l' (k1 ++ s' :: k2)), x ∈ addrs (h + 1) (.node a l ks) := fun x hx => by
      have h8 := A3 x hx
      rw [addrs_node, ← HR9.out.ks_] at h8
      rw [addrs_node]; exact h8
    have SW2 : Stp (· ∈ addrs (h + 1) (.node a l ks)) w ω w2 ω2 := ((HR9.out.stp.drew (n := 1))).trans S3 (fun x hx => .inl (by rw [addrs_node, ← HR9.out.ks_] at hx; rw [addrs_node]; exact hx)) hok.own
    have hfinE := HR9.out.fin s' G.ents
    have HKEEP : Hid (e ∉ ents (h + 1) (.node a l ks) → ¬ s'.l.length < 2) := hid_mk fun h8 => by
      have h9 : g ∉ ents h s := by
        have := HR9.out.dec
        rw [decide_eq_false h8] at this
        exact of_decide_eq_false this
      have h7 := G.keep h9
      have h6 := HGS.out.2.1
      omega
    have HLEN : Hid (l'.length = l.length) := hid_mk HR9.out.len
    have HDEC := hid_mk HR9.out.dec
    have HFE := hid_mk hfinE
    have HSW := hid_mk SW2
    have HMONO := hid_mk hmono
    clear X1 X2 X3 X4 a1 kc9 y0 y1 S2 S3 A3 hA hmono hfinE SW2 T3 T2 G HR9 HT9 HTK HOK9
    refine HFILL.mono ?_
    rintro r w3 ⟨rfl, ω3, t3, z1, z2, z3, z4, z5, z6, z7, z8, z9, z10⟩
    have HZ : Hid (DelPost B (h + 1) (.node a l ks) e w ω (.returned (.bool (decide (g ∈ ents h s)))) w3) := hid_mk ⟨ω3, t3, ret_bool HDEC.out, ⟨z1, z2, z3.trans HFE.out, by rw [show T.l (.node a l ks) = l from rfl, ← HLEN.out]; exact z4, by rw [show T.l (.node a l ks) = l from rfl, ← HLEN.out]; exact z5, fun h8 => by rw [show T.l (.node a l ks) = l from rfl, ← HLEN.out]; exact z6 (HKEEP.out h8)⟩, HSW.out.trans z7 (fun x hx => .inl (HMONO.out x hx)) hok.own, z8, z9, fun x hx => HMONO.out x (z10 x hx)⟩
    clear z1 z2 z3 z4 z5 z6 z7 z8 z9 z10 HFILL
    go_wp2_with fail
    go_ret
    exact HZ.out

theorem del_any (B : Nat) : ∀ (h : Nat) (e : E) (t : T) (ω : Ow) (w : World), Good h t → t.l.length ≤ 4 → (h ≠ 0 → 1 ≤ t.l.length) → Srt (ents h t) → Tr h w ω t → Okw B w ω → B ≤ w.heap.size →
    Calls Try.prog 31 #[.pointer (some ⟨t.a, 0, none⟩), .agg #[.string e.key, .int .i64 e.id]] w (DelPost B h t e w ω)
  | 0, e, .node a l ks, ω, w, hg, hl4, _, hs, ht, hok, hB => by
    have hks : ks = [] := hg
    subst hks
    refine (del_leaf B e a l ω w hl4 hs ht.top hok hB).mono ?_
    rintro r w' ⟨ω', hr, S, ok', N⟩
    have hs' : Srt l := hs
    have hlen : (del e l).length ≤ l.length ∧ l.length ≤ (del e l).length + 1 ∧ (e ∉ l → (del e l).length = l.length) := by
      by_cases he : e ∈ l
      · obtain ⟨h1, h2⟩ := leaf_cut hs' he
        rw [← h2]
        refine ⟨by simp; omega, by simp; omega, fun h9 => absurd he h9⟩
      · rw [del_not hs' he]
        exact ⟨Nat.le_refl _, Nat.le_succ _, fun _ => rfl⟩
    refine ⟨ω', .node a (del e l) [], hr, ⟨rfl, rfl, rfl, hlen.1, hlen.2.1, hlen.2.2⟩, S.wider fun x hx => by rw [hx]; exact addrs_self 0 (.node a l []), ok', ⟨fun s hs => ?_, by simp [addrs, subs]⟩, fun x hx => hx⟩
    have e9 : s = .node a (del e l) [] := by simpa [subs] using hs
    subst e9
    exact N
  | h + 1, e, .node a l ks, ω, w, hg, hl4, h1, hs, ht, hok, hB => del_inner B e h (fun e t ω w => del_any B h e t ω w) a l ks ω w hg hl4 (h1 (by omega)) hs ht hok hB

end Go.Proofs.Ytaoamkkgiiiejaa
