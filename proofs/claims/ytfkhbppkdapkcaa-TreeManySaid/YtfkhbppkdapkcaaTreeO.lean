/- The shape of a tree, read off its nodes. -/
import Derived.Test.YtfkhbppkdapkcaaTreeN
namespace Go.Proofs.Ytfkhbppkdapkcaa
open Go.RowKit
set_option linter.unusedVariables false
attribute [local go_sem ↓] Go.wp_at_zero Go.wp_at_succ

theorem ncells_at (pre : List Nn) (x : Nn) (post : List Nn) : (ncells (pre ++ x :: post))[pre.length * 3]? = some (.int .i64 (x.d : Nat)) ∧ (ncells (pre ++ x :: post))[pre.length * 3 + 1]? = some (.int .i64 (x.n : Nat)) ∧ (ncells (pre ++ x :: post))[pre.length * 3 + 2]? = some (.bool x.leaf) := by
  have h1 := ncells_length pre
  have h2 : ncells (pre ++ x :: post) = ncells pre ++ ([.int .i64 (x.d : Nat), .int .i64 (x.n : Nat), .bool x.leaf] ++ ncells post) := by rw [ncells_append]; rfl
  rw [h2]
  refine ⟨?_, ?_, ?_⟩
  · rw [List.getElem?_append_right (by omega), h1, Nat.sub_self]; rfl
  · rw [List.getElem?_append_right (by omega), h1, Nat.add_sub_cancel_left]; rfl
  · rw [List.getElem?_append_right (by omega), h1, Nat.add_sub_cancel_left]; rfl
def ShapeOk (v : Value) (N : List Nn) (w : World) (h : Nat) : Prop := ∀ (s : T) (d i : Nat) (A D : Int) (pre post : List Nn), A = (i : Int) → D = (d : Int) → N = pre ++ nodesOf h s d ++ post → pre.length = i → Good h s → s.l.length ≤ 4 → 1 ≤ d → (1 < d → 2 ≤ s.l.length) → (h ≠ 0 → 1 ≤ s.l.length) → d + h < 1000000000 → (ents h s).length < 1000000000 →
  Calls Try.prog 29 #[v, .int .i64 A, .int .i64 D] w fun r w' => r = .returned (.tuple #[.int .i64 ((ents h s).length : Nat), .int .i64 ((d + h : Nat) : Int), .int .i64 ((i + (nodesOf h s d).length : Nat) : Int)]) ∧ w = w'
theorem ret_three {a b c a' b' c' : Int} (h1 : a = a') (h2 : b = b') (h3 : c = c') : Ending.returned (.tuple #[.int .i64 a, .int .i64 b, .int .i64 c]) = .returned (.tuple #[.int .i64 a', .int .i64 b', .int .i64 c']) := by rw [h1, h2, h3]
def sumK (h : Nat) (s : T) (k : Nat) : Nat := ((s.ks.take k).map fun c => (ents h c).length).sum
def nodK (h : Nat) (s : T) (d k : Nat) : List Nn := ((s.ks.take k).map fun c => nodesOf h c (d + 1)).flatten
theorem sumK_succ {h : Nat} {s : T} {k : Nat} (hk : k < s.ks.length) : sumK h s (k + 1) = sumK h s k + (ents h s.ks[k]).length := by
  unfold sumK
  rw [List.take_succ_eq_append_getElem hk, List.map_append, List.sum_append]
  simp
theorem nodK_succ {h : Nat} {s : T} {d k : Nat} (hk : k < s.ks.length) : nodK h s d (k + 1) = nodK h s d k ++ nodesOf h s.ks[k] (d + 1) := by
  unfold nodK
  rw [List.take_succ_eq_append_getElem hk, List.map_append, List.flatten_append]
  simp
theorem sumK_le (h : Nat) (s : T) (k : Nat) : sumK h s k ≤ total h s.ks := by
  unfold sumK total
  conv => rhs; rw [← List.take_append_drop k s.ks]
  rw [List.map_append, List.sum_append]
  omega
theorem nodK_cut (h : Nat) (s : T) (d k : Nat) : nodesOf (h + 1) s d = ⟨d, s.l.length, false⟩ :: (nodK h s d k ++ ((s.ks.drop k).map fun c => nodesOf h c (d + 1)).flatten) := by
  unfold nodK
  rw [← List.flatten_append, ← List.map_append, List.take_append_drop]
  rfl

set_option maxHeartbeats 4000000 in
set_option maxRecDepth 100000 in
theorem shape_walk (B : Nat) (v : Value) (N : List Nn) (w : World) (R : Rw B w 49 3 v N.length (ncells N)) (hN : N.length < 1000000000) (h : Nat) (ih : ∀ h', h = h' + 1 → ShapeOk v N w h') : ShapeOk v N w h := by
  intro s d i A D pre post hA hD hNe hi hg hl4 hd1 hd2 hh1 hdh hel
  subst hA hD hi
  obtain ⟨rest, hrest⟩ : ∃ rest, nodesOf h s d = ⟨d, s.l.length, decide (h = 0)⟩ :: rest := by
    cases h with
    | zero => exact ⟨[], rfl⟩
    | succ h => exact ⟨_, rfl⟩
  have hN2 : N = pre ++ ⟨d, s.l.length, decide (h = 0)⟩ :: (rest ++ post) := by rw [hNe, hrest]; simp
  have hcat := ncells_at pre ⟨d, s.l.length, decide (h = 0)⟩ (rest ++ post)
  rw [← hN2] at hcat
  obtain ⟨Av, cap, rfl, hnc, hcm, hA0, hAs⟩ := R.shape
  have hil : pre.length < N.length := by rw [hN2]; simp
  rcases Av with _ | Av
  · exact absurd (hA0 rfl).1 (by omega)
  obtain ⟨g, rfl, _, _, _, hcell⟩ := hAs _ rfl
  have c0 := hcell _ _ hcat.1
  have c1 := hcell _ _ hcat.2.1
  have c2 := hcell _ _ hcat.2.2
  simp only at c0 c1 c2
  obtain ⟨i, hi⟩ : ∃ i, i = pre.length := ⟨_, rfl⟩
  rw [← hi] at c0 c1 c2 hil
  obtain ⟨n, hn⟩ : ∃ n, n = s.l.length := ⟨_, rfl⟩
  rw [← hn] at c1 hl4 hd2 hh1
  have HNE := hid_mk hNe
  have HG := hid_mk hg
  have HI := hid_mk hi
  have HNN := hid_mk hn
  have HR := hid_mk R
  rw [← hi]
  have i0 : (0 : Int) ≤ (i : Int) := by omega
  have i1 : (i : Int) < (N.length : Int) := by omega
  have n4 : ¬ (4 : Int) < (n : Int) := by omega
  have ddn : ((d : Int) != (d : Int)) = false := by simp
  cases h with
  | zero =>
    have HE : Hid ((ents 0 s).length = n) := hid_mk hn.symm
    have HNO : Hid ((nodesOf 0 s d).length = 1) := hid_mk rfl
    have c2' : w.cell? ⟨g, i * 3 + 2, none⟩ = some (.bool true) := c2
    clear c2 hA0 hAs hcell hcat hN2 hrest hNe hi hn R hg ih
    by_cases hd : 1 < d
    · have n2 : ¬ (n : Int) < 2 := by have := hd2 hd; omega
      have hdI : (1 : Int) < (d : Int) := by omega
      go_enter Try.func29, Try.ntmps29
      go_wp2_with fail
      go_ret3
      exact ⟨ret_three (by rw [HE.out]) (by omega) (by rw [HNO.out]; omega), rfl⟩
    · have hdI : ¬ (1 : Int) < (d : Int) := by omega
      go_enter Try.func29, Try.ntmps29
      go_wp2_with fail
      go_ret3
      exact ⟨ret_three (by rw [HE.out]) (by omega) (by rw [HNO.out]; omega), rfl⟩
  | succ h =>
    have c2' : w.cell? ⟨g, i * 3 + 2, none⟩ = some (.bool false) := c2
    have n1 := hh1 (by omega)
    have n1' : ¬ (n : Int) < 1 := by omega
    have hks := hg.1
    have hent := ents_length hg
    rw [← hn] at hks hent
    have HEL := hid_mk hent
    have hkl : Hid (s.ks.length = n + 1) := hid_mk hks
    have hsl := fun k => sumK_le h s k
    have hnl : ∀ k, i + 1 + (nodK h s d k).length ≤ N.length := fun k => by
      have h9 := nodK_cut h s d k
      rw [hNe, h9]
      simp
      omega
    have HSL := hid_mk hsl
    have HNL := hid_mk hnl
    have hdI0 : (1 < d ∧ 2 ≤ n) ∨ ¬ 1 < d := by
      by_cases hd : 1 < d
      · exact .inl ⟨hd, hd2 hd⟩
      · exact .inr hd
    have HIH := hid_mk (ih h rfl)
    have HELB := hid_mk hel
    clear c2 hA0 hAs hcell hcat hN2 hrest hNe hi hn R hg ih hsl hnl hks hent hel hd2 hh1
    rcases hdI0 with ⟨hd, hn2⟩ | hd
    all_goals
      first
        | have n2 : ¬ (n : Int) < 2 := by omega
          have hdI : (1 : Int) < (d : Int) := by omega
          skip
        | have hdI : ¬ (1 : Int) < (d : Int) := by omega
          skip
      go_enter Try.func29, Try.ntmps29
      go_wp2_with fail
      go_loop [9, 10, 11, 12] (fun a b c j => ∃ k sk nk : Nat, j = .int .i64 k ∧ k ≤ n + 1 ∧ Hid (sk = sumK h s k) ∧ Hid (nk = (nodK h s d k).length) ∧ a = .int .i64 ((n : Int) + (sk : Int)) ∧ b = .int .i64 ((i : Int) + 1 + (nk : Int)) ∧ c = .int .i64 (if k = 0 then 0 else ((d + (h + 1) : Nat) : Int))) (fun _ _ _ j => n + 2 - (intOf j).toNat)
      case atStart => exact ⟨0, 0, 0, rfl, Nat.zero_le _, hid_mk (by simp [sumK]), hid_mk (by simp [nodK]), by go_num, by go_num, rfl⟩
      case round =>
        obtain ⟨k, sk, nk, rfl, hk, HS, HK, rfl, rfl, rfl⟩ := hrel
        by_cases hlt : k < n + 1
        · have hlt' : (k : Int) ≤ (n : Int) := by omega
          have hkk : k < s.ks.length := by rw [hkl.out]; exact hlt
          obtain ⟨c, hc⟩ : ∃ c, c = s.ks[k] := ⟨_, rfl⟩
          have hss := sumK_succ (h := h) hkk
          have hns := nodK_succ (h := h) (d := d) hkk
          rw [← hc] at hss hns
          have hcm : c ∈ s.ks := by rw [hc]; exact List.getElem_mem hkk
          have hgc := HG.out.2 c hcm
          have hb1 := HSL.out (k + 1)
          have hb2 := HNL.out (k + 1)
          have hE := HEL.out
          have hEB := HELB.out
          rw [hss] at hb1
          rw [hns, List.length_append] at hb2
          rw [← HS.out] at hb1
          rw [← HK.out] at hb2
          obtain ⟨ec, hec⟩ : ∃ ec, ec = (ents h c).length := ⟨_, rfl⟩
          obtain ⟨nc, hnc'⟩ : ∃ nc, nc = (nodesOf h c (d + 1)).length := ⟨_, rfl⟩
          rw [← hec] at hb1 hss
          rw [← hnc'] at hb2
          have hb3 : n + sk + ec < 1000000000 := by omega
          have hsplit : N = (pre ++ ⟨d, n, false⟩ :: nodK h s d k) ++ nodesOf h c (d + 1) ++ (((s.ks.drop (k + 1)).map fun c => nodesOf h c (d + 1)).flatten ++ post) := by
            rw [HNE.out, nodK_cut h s d (k + 1), hns, ← HNN.out]
            simp
          have hpl : (pre ++ ⟨d, n, false⟩ :: nodK h s d k).length = i + 1 + nk := by
            rw [List.length_append, List.length_cons, HI.out, HK.out]; omega
          have HC := hid_mk (HIH.out c (d + 1) (i + 1 + nk) ((i : Int) + 1 + (nk : Int)) ((d : Int) + 1) _ _ (by omega) (by omega) hsplit hpl hgc.1 hgc.2.2 (by omega) (fun _ => hgc.2.1) (fun _ => by omega) (by omega) (by omega))
          rw [← hec, ← hnc'] at HC
          have HSS : Hid (sk + ec = sumK h s (k + 1)) := hid_mk (by rw [hss, HS.out])
          have HKK : Hid (nk + nc = (nodK h s d (k + 1)).length) := hid_mk (by rw [hns, List.length_append, HK.out, hnc'])
          have hdd : ((d + 1 + h : Nat) : Int) = ((d + (h + 1) : Nat) : Int) := by omega
          rw [hdd] at HC
          obtain ⟨dl, hdl⟩ : ∃ dl : Nat, dl = d + (h + 1) := ⟨_, rfl⟩
          rw [← hdl] at HC ⊢
          have hdl0 : (0 : Int) < (dl : Int) := by omega
          have HDL := hid_mk hdl
          have hdln : ((dl : Int) != (dl : Int)) = false := by simp
          have hec0 : ¬ (ec : Int) < 0 := by omega
          clear hc hss hns hcm hsplit hpl hec hnc' hdd hdl hE hEB hb1
          by_cases hk0 : k = 0
          · subst hk0
            simp only [if_true]
            go_wp2_with fail
            refine HC.out.mono ?_
            rintro r w' ⟨rfl, rfl⟩
            go_wp2_with fail
            exact ⟨⟨0 + 1, sk + ec, nk + nc, by go_num, by omega, HSS, HKK, congrArg (Value.int .i64) (by omega), congrArg (Value.int .i64) (by omega), by rw [if_neg (by omega), HDL.out]⟩, by simp [intOf]⟩
          · rw [if_neg hk0]
            go_wp2_with fail
            refine HC.out.mono ?_
            rintro r w' ⟨rfl, rfl⟩
            go_wp2_with fail
            exact ⟨⟨k + 1, sk + ec, nk + nc, by go_num, by omega, HSS, HKK, congrArg (Value.int .i64) (by omega), congrArg (Value.int .i64) (by omega), by rw [if_neg (by omega), HDL.out]⟩, by simp [intOf]; omega⟩
        · obtain rfl : k = n + 1 := by omega
          have hall : s.ks.take (n + 1) = s.ks := by rw [← hkl.out, List.take_length]
          have h1 : Hid (n + sk = (ents (h + 1) s).length) := hid_mk (by rw [HEL.out, HS.out]; unfold sumK total; rw [hall])
          have h2 : Hid (1 + nk = (nodesOf (h + 1) s d).length) := hid_mk (by
            have h9 := nodK_cut h s d (n + 1)
            rw [HK.out, h9, List.drop_of_length_le (Nat.le_of_eq hkl.out)]
            simp
            omega)
          have hlt' : ¬ ((n + 1 : Nat) : Int) ≤ (n : Int) := by omega
          have hlt'' : ¬ (n : Int) + 1 ≤ (n : Int) := by omega
          rw [if_neg (by omega : ¬ n + 1 = 0)]
          clear hall
          go_wp2_with fail
          go_ret3
          exact ⟨ret_three (by rw [← h1.out]; omega) rfl (by rw [← h2.out]; omega), rfl⟩

theorem shape_any (B : Nat) (v : Value) (N : List Nn) (w : World) (R : Rw B w 49 3 v N.length (ncells N)) (hN : N.length < 1000000000) : ∀ h, ShapeOk v N w h
  | 0 => shape_walk B v N w R hN 0 (fun h' e => by omega)
  | h + 1 => shape_walk B v N w R hN (h + 1) (fun h' e => by
      obtain rfl : h' = h := by omega
      exact shape_any B v N w R hN h')

set_option maxHeartbeats 1000000 in
theorem right_any (B p : Nat) (L : List E) (F : Nat → Prop) (w : World) (H : Tree B w p L F) (hL : L.length < 1000000) :
    Calls Try.prog 16 #[.pointer (some ⟨p, 0, none⟩)] w fun r w' => r = .returned (.bool true) ∧ Below w.heap.size w w' := by
  have HH := hid_mk H
  obtain ⟨h, t, ω, H, rfl, rfl⟩ := H
  have hn := nodes_le' h t 1 H.good
  have hh : h < 1000000 := by
    by_cases h0 : h = 0
    · omega
    · have := height_le h t H.good (H.one h0); omega
  have HAT := hid_mk H
  clear H
  go_enter Try.func16, Try.ntmps16
  go_wp2_with fail
  refine (nodes_meth B p h t ω _ HAT.out (by omega)).mono ?_
  rintro r w1 ⟨v, rfl, R, b1⟩
  obtain ⟨Av, cap, rfl, _, _, _⟩ := R.shape
  go_wp2_with fail
  refine (shape_any _ _ _ _ R (by omega) h t 1 0 0 1 [] [] rfl rfl (by simp) rfl HAT.out.good HAT.out.four (Nat.le_refl _) (fun h9 => absurd h9 (by omega)) HAT.out.one (by omega) (by omega)).mono ?_
  rintro r w2 ⟨rfl, rfl⟩
  obtain ⟨S, hS⟩ : ∃ S, S = (ents h t).length := ⟨_, rfl⟩
  obtain ⟨M, hM⟩ : ∃ M, M = (nodesOf h t 1).length := ⟨_, rfl⟩
  have HS := hid_mk hS
  rw [← hS, ← hM]
  have q1 : ((S : Int) == (S : Int)) = true := by simp
  have q2 : ((M : Int) == (M : Int)) = true := by simp
  have q3 : (((0 + M : Nat) : Int) == (M : Int)) = true := by simp
  have HT2 := hid_mk (HH.out.below b1)
  clear hS hM R
  go_wp2_with fail
  refine (len_any B p _ _ _ HT2.out).mono ?_
  rintro r w3 ⟨rfl, rfl⟩
  rw [← HS.out]
  go_wp2_with fail
  go_ret
  exact ⟨rfl, b1⟩

end Go.Proofs.Ytfkhbppkdapkcaa
