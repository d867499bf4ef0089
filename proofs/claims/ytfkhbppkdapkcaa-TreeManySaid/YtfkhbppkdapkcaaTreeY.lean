/- The nodes of a tree, told in order. -/
import Derived.Test.YtfkhbppkdapkcaaTreeX
namespace Go.Proofs.Ytfkhbppkdapkcaa
open Go.RowKit
set_option linter.unusedVariables false
attribute [local go_sem ↓] Go.wp_at_zero Go.wp_at_succ

structure Nn where
  d : Nat
  n : Nat
  leaf : Bool
def ncells (l : List Nn) : List Value := l.flatMap fun x => [.int .i64 (x.d : Nat), .int .i64 (x.n : Nat), .bool x.leaf]
theorem ncells_length (l : List Nn) : (ncells l).length = l.length * 3 := by
  induction l with
  | nil => rfl
  | cons x l ih => unfold ncells at ih ⊢; rw [List.flatMap_cons, List.length_append, ih, List.length_cons]; simp; omega
theorem ncells_append (a b : List Nn) : ncells (a ++ b) = ncells a ++ ncells b := by unfold ncells; exact List.flatMap_append ..
theorem ncells_one (l : List Nn) : ∀ u ∈ ncells l, u.oneCell' = true := by
  intro u hu
  unfold ncells at hu
  obtain ⟨x, _, hx⟩ := List.mem_flatMap.1 hu
  simp at hx
  rcases hx with rfl | rfl | rfl <;> rfl
def nodesOf : Nat → T → Nat → List Nn
  | 0, s, d => [⟨d, s.l.length, true⟩]
  | h + 1, s, d => ⟨d, s.l.length, false⟩ :: (s.ks.map fun k => nodesOf h k (d + 1)).flatten
/-- What has been told when k kids have been. -/
def told (h : Nat) (s : T) (d k : Nat) (leaf : Bool) : List Nn := ⟨d, s.l.length, leaf⟩ :: ((s.ks.take k).map fun k => nodesOf h k (d + 1)).flatten
theorem told_succ {h : Nat} {s : T} {d k : Nat} {b : Bool} (hk : k < s.ks.length) : told h s d (k + 1) b = told h s d k b ++ nodesOf h s.ks[k] (d + 1) := by
  unfold told
  rw [List.take_succ_eq_append_getElem hk, List.map_append, List.flatten_append]
  simp only [List.map_cons, List.map_nil, List.flatten_cons, List.flatten_nil, List.append_nil, List.cons_append]
theorem told_le {h : Nat} {s : T} {d k : Nat} : (told h s d k false).length ≤ (nodesOf (h + 1) s d).length := by
  have h1 : nodesOf (h + 1) s d = told h s d k false ++ ((s.ks.drop k).map fun k => nodesOf h k (d + 1)).flatten := by
    unfold told
    conv => lhs; unfold nodesOf
    rw [List.cons_append, ← List.flatten_append, ← List.map_append, List.take_append_drop]
  rw [h1, List.length_append]
  omega
theorem nodesOf_pos (h : Nat) (s : T) (d : Nat) : 0 < (nodesOf h s d).length := by cases h <;> simp [nodesOf]

theorem infoNn : (Try.prog.info? 49).map (fun i => (i.zero, i.size, i.bytes)) = some (some (.agg #[.int .i64 0, .int .i64 0, .bool false]), 3, 24) := by kernel_rfl

set_option maxHeartbeats 2000000 in
set_option maxRecDepth 100000 in
theorem nodes_walk (B h : Nat) (ih : ∀ h', h = h' + 1 → ∀ (s : T) (d : Nat) (D : Int) (ω : Ow) (w : World), D = (d : Int) → Good h' s → Tr h' w ω s → Okw B w ω → s.l.length ≤ 4 → (nodesOf h' s d).length < 1000000000000 → d + h' < 1000000000000 →
      Calls Try.prog 35 #[.pointer (some ⟨s.a, 0, none⟩), .int .i64 D] w fun r w' => ∃ v, r = .returned v ∧ Rw w.heap.size w' 49 3 v (nodesOf h' s d).length (ncells (nodesOf h' s d)) ∧ Below w.heap.size w w')
    (s : T) (d : Nat) (D : Int) (ω : Ow) (w : World) (hD : D = (d : Int)) (hg : Good h s) (ht : Tr h w ω s) (hok : Okw B w ω) (hl4 : s.l.length ≤ 4) (hlen : (nodesOf h s d).length < 1000000000000) (hd : d + h < 1000000000000) :
    Calls Try.prog 35 #[.pointer (some ⟨s.a, 0, none⟩), .int .i64 D] w fun r w' => ∃ v, r = .returned v ∧ Rw w.heap.size w' 49 3 v (nodesOf h s d).length (ncells (nodesOf h s d)) ∧ Below w.heap.size w w' := by
    subst hD
    obtain ⟨v, u, N⟩ := ht.top
    obtain ⟨c0, c1, _, _⟩ := N.cells
    obtain ⟨Al, cl, rfl, _, _⟩ := N.lany
    obtain ⟨Ak, ck, rfl, hkc1, hkc2⟩ := N.kany
    have HG := hid_mk hg
    have HT := hid_mk ht
    have HOK := hid_mk hok
    have HN := hid_mk N
    obtain ⟨i0, hi0, hz0, hzs, hzb⟩ := info_parts infoNn
    obtain ⟨Q, hQ⟩ : ∃ Q, Q = (s.ks.map T.a).length := ⟨_, rfl⟩
    rw [← hQ] at c1 hkc1
    have hQk : Q = s.ks.length := by rw [hQ, List.length_map]
    obtain ⟨lf, hlf⟩ : ∃ lf : Bool, lf = decide (Q = 0) := ⟨_, rfl⟩
    have hm0 := World.new_ne w ⟨s.a, 0, none⟩ c0
    have hsa := N.lt
    have hlen1 : 1 ≤ (nodesOf h s d).length := by cases h <;> simp [nodesOf]
    have htold0 : nodesOf h s d = told (h - 1) s d Q lf := by
      cases h with
      | zero =>
        have hks : s.ks = [] := hg
        have hQ0 : Q = 0 := by rw [hQk, hks]; rfl
        rw [hlf, hQ0]
        simp [nodesOf, told, hks]
      | succ h =>
        have h9 := hg.1
        have hQ0 : ¬ Q = 0 := by omega
        rw [hlf, decide_eq_false hQ0, hQk]
        unfold nodesOf told
        rw [Nat.add_sub_cancel, List.take_length]
    have HTO := hid_mk htold0
    have HLF := hid_mk hlf
    have HQK := hid_mk hQk
    clear hg ht hok N hQ htold0 hQk
    go_enter Try.func35, Try.ntmps35
    go_wp2_with fail
    go_region_held3 (fun w' => w'.cell? ⟨s.a, 0, none⟩ = some (.slice Al s.l.length cl) ∧ w'.cell? ⟨s.a, 1, none⟩ = some (.slice Ak Q ck)) (go_keep)
      ((go_at_call 31; refine (leaf_any s.a Q ck Ak _ (by assumption)).mono ?_; rintro r w2 ⟨rfl, rfl⟩; rw [← HLF.out]))
    go_wp2_with fail
    have hts : ∀ k, k ≤ Q → (told (h - 1) s d k lf).length ≤ (nodesOf h s d).length := fun k hk => by
      rw [HTO.out]
      have e : s.ks.take k = (s.ks.take Q).take k := by rw [List.take_take, Nat.min_eq_left hk]
      unfold told
      have h1 : (s.ks.take Q).map (fun x => nodesOf (h - 1) x (d + 1)) = ((s.ks.take Q).take k).map (fun x => nodesOf (h - 1) x (d + 1)) ++ ((s.ks.take Q).drop k).map (fun x => nodesOf (h - 1) x (d + 1)) := by rw [← List.map_append, List.take_append_drop]
      rw [h1, List.flatten_append, e]
      simp only [List.length_cons, List.length_append]
      omega
    have HTS := hid_mk hts
    clear hts
    go_loopw [5, 23] (fun o i wr => ∃ k : Nat, i = .int .i64 k ∧ k ≤ Q ∧ Hid (Rw w.heap.size wr 49 3 o (told (h - 1) s d k lf).length (ncells (told (h - 1) s d k lf))) ∧ Below w.heap.size w wr) (fun _ i _ => Q - (intOf i).toNat)
    case atStart =>
      refine ⟨0, rfl, Nat.zero_le _, hid_mk ?_, pw_below (n := 1) (balloc _)⟩
      have e : told (h - 1) s d 0 lf = [⟨d, s.l.length, lf⟩] := by simp [told]
      rw [e]
      exact ⟨rfl, .inr ⟨w.heap.size, 1, _, rfl, Nat.le_refl _, heap_alloc_new w _, Nat.le_refl _, by simp [maxLen], by simp, by simp [ncells]; exact HLF.out.symm⟩⟩
    case round =>
      obtain ⟨k, rfl, hk, R, hb⟩ := hrel
      by_cases hlt : k < Q
      · have hkk : k < s.ks.length := by rw [← HQK.out]; exact hlt
        obtain ⟨h', rfl⟩ : ∃ h', h = h' + 1 := by
          cases h with
          | zero => have hks : s.ks = [] := HG.out; rw [hks] at hkk; simp at hkk
          | succ h => exact ⟨h, rfl⟩
        rw [Nat.add_sub_cancel] at R
        obtain ⟨gk, kcap, hk2, _, _, hgklt, hkc⟩ := HN.out.kshape (by rw [List.length_map]; omega)
        injection hk2 with q1 q2 q3
        subst q1 q3
        have kc := hkc k (by rw [List.length_map]; exact hkk)
        rw [List.getElem_map] at kc
        have kc' := keep_cell hb kc
        obtain ⟨c, hc⟩ : ∃ c, c = s.ks[k] := ⟨_, rfl⟩
        rw [← hc] at kc kc'
        have hcm : c ∈ s.ks := by rw [hc]; exact List.getElem_mem hkk
        have hgc := HG.out.2 c hcm
        have hks : s.ks = s.ks.take k ++ c :: s.ks.drop (k + 1) := by rw [hc, ← List.drop_eq_getElem_cons hkk, List.take_append_drop]
        have Tc : Tr h' w ω c := by
          have h9 := HT.out
          rw [T.eta s, hks] at h9
          exact h9.kid.1
        have htd := told_succ (h := h') (s := s) (d := d) (b := lf) hkk
        rw [← hc] at htd
        have HTD := hid_mk htd
        have hl9 := HTS.out (k + 1) hlt
        rw [Nat.add_sub_cancel, HTD.out, List.length_append] at hl9
        have HTc := hid_mk (Tc.below HOK.out hb)
        have HGC := hid_mk hgc
        have hpos := nodesOf_pos h' c (d + 1)
        have HCC := hid_mk hc
        obtain ⟨v5, hv5⟩ : ∃ x : Unit, x = () := ⟨(), rfl⟩
        clear hkc kc hc hcm hks Tc htd hgc hv5 v5
        go_wp2_with fail
        refine (ih h' rfl c (d + 1) _ ω _ (by omega) HGC.out.1 HTc.out (HOK.out.below hb) HGC.out.2.2 (by omega) (by omega)).mono ?_
        rintro r w2 ⟨v2, rfl, R2, b2⟩
        obtain ⟨A2, cap2, rfl, _, _, hA0, hA⟩ := R2.shape
        rcases A2 with _ | A2
        · exact absurd (hA0 rfl).1 (by omega)
        obtain ⟨g2, hg2, _, _, _, hcells⟩ := hA _ rfl
        subst hg2
        have R1 := R.out.below b2
        obtain ⟨v3, w3, hr, R3, M3⟩ := run_app_rw (P := Try.prog) R1 (by have := hb.size; have := b2.size; omega) 46 46 i0 _ 24 Try.underlying46 hi0 hz0 hzs hzb rfl (by omega) ⟨g2, 0, none⟩ (nodesOf h' c (d + 1)).length cap2 hpos (ncells (nodesOf h' c (d + 1))) (ncells_length _) (fun j u hu => by rw [add0]; exact hcells j u hu) (ncells_one _) (by omega) (by omega)
        rw [← ncells_append, ← List.length_append, ← HTD.out] at R3
        have hb3 := (hb.trans (b2.mono hb.size)).trans (M3.below (fun x hx => (R1.lt x hx).1) (by have := hb.size; have := b2.size; omega))
        have HR3 := hid_mk R3
        clear R3 M3 R1 R2 R b2 hA0 hA hcells kc' hb
        go_wp2_with (at_builtin; refine Lib.wpList_append_run _ rfl _ _ 46 46 rfl _ _ rfl rfl _ _ hr ?_)
        exact ⟨⟨k + 1, by go_num, by omega, HR3, hb3⟩, by simp [intOf]; omega⟩
      · obtain rfl : k = Q := by omega
        rw [← HTO.out] at R
        go_wp2_with fail
        go_ret
        exact ⟨_, rfl, R.out, hb⟩

theorem nodes_any (B : Nat) : ∀ (h : Nat) (s : T) (d : Nat) (D : Int) (ω : Ow) (w : World), D = (d : Int) → Good h s → Tr h w ω s → Okw B w ω → s.l.length ≤ 4 → (nodesOf h s d).length < 1000000000000 → d + h < 1000000000000 →
    Calls Try.prog 35 #[.pointer (some ⟨s.a, 0, none⟩), .int .i64 D] w fun r w' => ∃ v, r = .returned v ∧ Rw w.heap.size w' 49 3 v (nodesOf h s d).length (ncells (nodesOf h s d)) ∧ Below w.heap.size w w'
  | 0 => fun s d D ω w hD hg ht hok hl4 hlen hd => nodes_walk B 0 (fun h' e => by omega) s d D ω w hD hg ht hok hl4 hlen hd
  | h + 1 => fun s d D ω w hD hg ht hok hl4 hlen hd => nodes_walk B (h + 1) (fun h' e => by
      obtain rfl : h' = h := by omega
      exact nodes_any B h') s d D ω w hD hg ht hok hl4 hlen hd

end Go.Proofs.Ytfkhbppkdapkcaa
