/- An entry is taken from a tree. -/
import Derived.Test.YtaoamkkgiiiejaaTreeDh
namespace Go.Proofs.Ytaoamkkgiiiejaa
open Go.RowKit
set_option linter.unusedVariables false
attribute [local go_sem ↓] Go.wp_at_zero Go.wp_at_succ

theorem del_length {e : E} {L : List E} (hs : Srt L) : (e ∈ L → L.length = (del e L).length + 1) ∧ (e ∉ L → del e L = L) := by
  refine ⟨fun he => ?_, fun he => del_not hs he⟩
  obtain ⟨h1, h2⟩ := leaf_cut hs he
  rw [← h2]; simp; omega

set_option maxHeartbeats 4000000 in
set_option maxRecDepth 100000 in
theorem tdel_any (B p : Nat) (L : List E) (F : Nat → Prop) (e : E) (w : World) (H : Tree B w p L F) (hL : L.length < 1000000000000) :
    Calls Try.prog 23 #[.pointer (some ⟨p, 0, none⟩), .agg #[.string e.key, .int .i64 e.id]] w fun r w' => r = .returned (.bool (decide (e ∈ L))) ∧ ∃ F', Tree B w' p (del e L) F' ∧ Mv F F' w w' := by
  have HH := hid_mk H
  obtain ⟨h, t, ω, H, rfl, rfl⟩ := H
  have hB : B ≤ w.heap.size := HH.out.size.1
  have hp := H.lt
  have c0 : w.cell? ⟨p, 0, none⟩ = some (.pointer (some ⟨t.a, 0, none⟩)) := (cell_of_row w p 0 _ _ _ H.blk).trans rfl
  have c1 : w.cell? ⟨p, 1, none⟩ = some (.int .i64 ((ents h t).length : Nat)) := (cell_of_row w p 1 _ _ _ H.blk).trans rfl
  have f0 : w.frozen? ⟨p, 0, none⟩ = false := by simp [World.frozen?, H.blk]
  have f1 : w.frozen? ⟨p, 1, none⟩ = false := by simp [World.frozen?, H.blk]
  have hfree := H.free
  have HAT := hid_mk H
  have HB := hid_mk H.blk
  obtain ⟨N, hN⟩ : ∃ N, N = (ents h t).length := ⟨_, rfl⟩
  rw [← hN] at c1 hL
  have HN := hid_mk hN
  obtain ⟨ta, hta⟩ : ∃ ta, ta = t.a := ⟨_, rfl⟩
  rw [← hta] at c0
  have HTA := hid_mk hta
  have b0 : Below w.heap.size w (w.alloc (.cells #[.string e.key, .int .i64 e.id] 36)).drew := pw_below (n := 1) (balloc _)
  have T0 := hid_mk (H.tr.below H.ok b0)
  have ok0 : Okw B (w.alloc (.cells #[.string e.key, .int .i64 e.id] 36)).drew ω := H.ok.below b0
  have HOK0 := hid_mk ok0
  have hnone := H.ok.none (Nat.le_refl w.heap.size)
  have HNONE := hid_mk hnone
  have HFREE := hid_mk hfree
  have m0 := World.new_ne w ⟨p, 0, none⟩ c0
  have hsz0 : B ≤ (w.alloc (.cells #[.string e.key, .int .i64 e.id] 36)).drew.heap.size := by show B ≤ (w.alloc _).heap.size; simp; omega
  have hps : p < (w.alloc (.cells #[.string e.key, .int .i64 e.id] 36)).drew.heap.size := by show p < (w.alloc _).heap.size; simp; omega
  have hws : w.heap.size < (w.alloc (.cells #[.string e.key, .int .i64 e.id] 36)).drew.heap.size := by show w.heap.size < (w.alloc _).heap.size; simp
  have HW := hid_mk (And.intro hsz0 (And.intro hps hws))
  clear hN hta H hfree hnone ok0 hsz0 hps hws
  go_enter Try.func23, Try.ntmps23
  go_wp2_with fail
  go_region_held3 (fun w' => w'.cell? ⟨p, 0, none⟩ = some (.pointer (some ⟨ta, 0, none⟩)) ∧ w'.cell? ⟨w.heap.size, 0, none⟩ = some (.string e.key) ∧ w'.cell? ⟨w.heap.size, 1, none⟩ = some (.int .i64 e.id))
    ((first | go_keep | exact ⟨X1, X3, X4⟩))
    ((go_at_call 31; (rw [HTA.out]); refine (del_any B h e t ω _ HAT.out.good HAT.out.four HAT.out.one HAT.out.srt T0.out HOK0.out HW.out.1).mono ?_; rintro r w2 ⟨ω2, t2, rfl, G, S2, ok2, T2, hA⟩;
      have X1 := (S2.cell (p := ⟨p, 0, none⟩) HW.out.2.1 (fun x hx => by rw [HFREE.out] at hx; cases hx)).trans (keep_cell b0 c0);
      have X2 := (S2.cell (p := ⟨p, 1, none⟩) HW.out.2.1 (fun x hx => by rw [HFREE.out] at hx; cases hx)).trans (keep_cell b0 c1);
      have Y0 := (S2.frozen (p := ⟨p, 0, none⟩) HW.out.2.1 (fun x hx => by rw [HFREE.out] at hx; cases hx)).trans (((bcell b0).2 p 0 hp).trans f0);
      have Y1 := (S2.frozen (p := ⟨p, 1, none⟩) HW.out.2.1 (fun x hx => by rw [HFREE.out] at hx; cases hx)).trans (((bcell b0).2 p 1 hp).trans f1);
      have X3 := (S2.cell (p := ⟨w.heap.size, 0, none⟩) HW.out.2.2 (fun x hx => by rw [HNONE.out] at hx; cases hx)).trans ((cell_of_row _ _ _ _ _ _ (heap_alloc_new w _)).trans rfl);
      have X4 := (S2.cell (p := ⟨w.heap.size, 1, none⟩) HW.out.2.2 (fun x hx => by rw [HNONE.out] at hx; cases hx)).trans ((cell_of_row _ _ _ _ _ _ (heap_alloc_new w _)).trans rfl)))
  have Z := hid_mk ((S2.block p HW.out.2.1 (fun x hx => by rw [HFREE.out] at hx; cases hx)).trans ((b0.block p hp).trans HB.out))
  have ta2 : t2.a = ta := G.addr.trans HTA.out.symm
  have free2 : ω2 p = none := (S2.same p HW.out.2.1).trans HFREE.out
  have M2 : Mv (Foots p ω) (Foots p ω2) w w2 := (Mv.of_below b0).trans S2.mv
  obtain ⟨v2, u2, N2⟩ := T2.top
  obtain ⟨A2, cap2, rfl, _, _⟩ := N2.lany
  obtain ⟨U2, ucap2, rfl, _, _⟩ := N2.kany
  have d0 := N2.cells.1
  have d1 := N2.cells.2.1
  rw [ta2] at d0 d1
  have hpt : ¬ p = ta := fun e9 => by have h9 := N2.own0; rw [ta2, ← e9, free2] at h9; cases h9
  have hptl : p < w2.heap.size := World.block_lt_of_cell? w2 _ X1
  have htal : ta < w2.heap.size := World.block_lt_of_cell? w2 _ d0
  have HM2 := hid_mk M2
  have HDL := hid_mk (del_length (e := e) HAT.out.srt)
  have HN2 := hid_mk N2
  clear S2 X3 X4 hA c0 c1 f0 f1 b0 M2 N2
  by_cases he : e ∈ ents h t
  · have hNe : N = (del e (ents h t)).length + 1 := by rw [HN.out]; exact HDL.out.1 he
    obtain ⟨N1, hN1⟩ : ∃ N1, N1 = (del e (ents h t)).length := ⟨_, rfl⟩
    rw [← hN1] at hNe
    have hw1 : IntKind.i64.wrap ((N : Int) - 1) = (N1 : Int) := by rw [IntKind.wrap_i64]; omega
    have hlen2 : (ents h t2).length = N1 := by rw [G.ents, hN1]
    have HL2 := hid_mk hlen2
    have HD : Hid (decide (e ∈ ents h t) = true) := hid_mk (by simp [he])
    have hZ : (w2.setCell ⟨p, 1, none⟩ (.int .i64 (N1 : Int))).heap[p]? = some (.cells #[.pointer (some ⟨ta, 0, none⟩), .int .i64 (N1 : Int)] 58 (0, 0)) := by
      have h9 := Z.out
      rw [← HTA.out] at h9
      exact block_setCell h9 1 _ (by simp)
    have T3 := T2.put (q := ⟨p, 1, none⟩) free2 (.int .i64 (N1 : Int))
    have ok3 := ok2.put ⟨p, 1, none⟩ (.int .i64 (N1 : Int))
    have M3 : Mv (Foots p ω2) (Foots p ω2) w2 (w2.setCell ⟨p, 1, none⟩ (.int .i64 (N1 : Int))) := Mv.setCell _ (.inl rfl)
    have HZ := hid_mk hZ
    have HT3 := hid_mk T3
    have HO3 := hid_mk ok3
    have HM3 := hid_mk M3
    have hf := HAT.out.four
    have hi := G.hi
    have HSRT : Hid (Srt (ents h t2)) := hid_mk (by rw [G.ents]; exact srt_del e HAT.out.srt)
    have HG := hid_mk G
    have e1 : (w2.setCell ⟨p, 1, none⟩ (.int .i64 (N1 : Int))).cell? ⟨ta, 1, none⟩ = some (.slice U2 (t2.ks.map T.a).length ucap2) := by go_simp
    clear hN1 hlen2 hZ T3 ok3 M3 hNe G
    rw [decide_eq_true he]
    by_cases h0 : t2.l.length = 0
    · have h0i : ((t2.l.length : Int) == 0) = true := by simp [h0]
      cases h with
      | zero =>
        have hks : t2.ks = [] := HG.out.good
        have hk0 : (t2.ks.map T.a).length = 0 := by rw [hks]; rfl
        rw [hk0] at e1
        have HR : Hid (del e (ents 0 t) = ents 0 t2 ∧ TreeAt B (w2.setCell ⟨p, 1, none⟩ (.int .i64 (N1 : Int))) p 0 t2 ω2) := hid_mk ⟨HG.out.ents.symm, ⟨by rw [HZ.out, HL2.out, ta2], HAT.out.base, free2, HG.out.good, by omega, fun h9 => absurd rfl h9, HSRT.out, HT3.out, HO3.out⟩⟩
        clear hks hk0 h0
        go_wp2_with (go_at_call 27; refine (leaf_any ta 0 ucap2 U2 _ e1).mono ?_; rintro r w4 ⟨rfl, rfl⟩)
        go_ret
        exact ⟨ret_bool HD.out.symm, Foots p ω2, ⟨0, t2, ω2, HR.out.2, HR.out.1, rfl⟩, HM2.out.trans HM3.out⟩
      | succ h =>
        have hkl : t2.ks.length = t2.l.length + 1 := HG.out.good.1
        obtain ⟨c, hc⟩ : ∃ c, t2.ks = [c] := by
          rcases hk : t2.ks with _ | ⟨c, _ | ⟨c2, r⟩⟩
          · rw [hk] at hkl; simp at hkl
          · exact ⟨c, rfl⟩
          · rw [hk, h0] at hkl; simp at hkl
        have hgc := HG.out.good.2 c (by rw [hc]; simp)
        have hlist : t2.l = [] := List.eq_nil_of_length_eq_zero h0
        have hents : ents (h + 1) t2 = ents h c := by
          show inter t2.l (t2.ks.map (ents h)) = _
          rw [hlist, hc]
          exact inter_one _
        have hk1 : (t2.ks.map T.a).length = 1 := by rw [hc]; rfl
        have N3 := HN2.out
        obtain ⟨gk, kcap, equ, _, _, hgk, hkcell⟩ := N3.kshape (by omega)
        injection equ with eq1 eq2 eq3
        subst eq1
        have kc := hkcell 0 (by omega)
        have e9 : (t2.ks.map T.a)[0]'(by omega) = c.a := by simp [hc]
        rw [e9] at kc
        have hgp : ¬ p = gk := fun e8 => by have h9 := N3.ownu gk rfl; rw [← e8, free2] at h9; cases h9
        have tc : Tr h (w2.setCell ⟨p, 1, none⟩ (.int .i64 (N1 : Int))) ω2 c := by
          have h9 := HT3.out
          rw [T.eta t2, hc] at h9
          exact (Tr.kid (k1 := []) (k2 := []) h9).1
        have z4 := block_setCell HZ.out 0 (.pointer (some ⟨c.a, 0, none⟩)) (by simp)
        have HR : Hid (del e (ents (h + 1) t) = ents h c ∧ TreeAt B ((w2.setCell ⟨p, 1, none⟩ (.int .i64 (N1 : Int))).setCell ⟨p, 0, none⟩ (.pointer (some ⟨c.a, 0, none⟩))) p h c ω2) :=
          hid_mk ⟨by rw [← hents]; exact HG.out.ents.symm, ⟨by rw [z4, ← hents, HL2.out]; rfl, HAT.out.base, free2, hgc.1, hgc.2.2, fun _ => by have := hgc.2.1; omega, by rw [← hents]; exact HSRT.out, tc.put free2 _, HO3.out.put _ _⟩⟩
        have M4 := hid_mk (Mv.setCell (F := Foots p ω2) (w := w2.setCell ⟨p, 1, none⟩ (.int .i64 (N1 : Int))) (a := ⟨p, 0, none⟩) (.pointer (some ⟨c.a, 0, none⟩)) (.inl rfl))
        have hd1 : decide ((1 : Nat) = 0) = false := rfl
        rw [hk1] at e1 d1
        clear eq2 eq3 hkcell e9 hk1 hc hlist hents hkl hgc tc z4 h0 N3
        go_wp2_with (go_at_call 27; refine (leaf_any ta 1 ucap2 (some ⟨gk, 0, none⟩) _ e1).mono ?_; rintro r w4 ⟨rfl, rfl⟩)
        go_ret
        exact ⟨ret_bool HD.out.symm, Foots p ω2, ⟨h, c, ω2, HR.out.2, HR.out.1, rfl⟩, (HM2.out.trans HM3.out).trans M4.out⟩
    · have h0i : ((t2.l.length : Int) == 0) = false := by simp [h0]
      have HR : Hid (del e (ents h t) = ents h t2 ∧ TreeAt B (w2.setCell ⟨p, 1, none⟩ (.int .i64 (N1 : Int))) p h t2 ω2) := hid_mk ⟨HG.out.ents.symm, ⟨by rw [HZ.out, HL2.out, ta2], HAT.out.base, free2, HG.out.good, by omega, fun _ => by omega, HSRT.out, HT3.out, HO3.out⟩⟩
      go_wp2_with fail
      go_ret
      exact ⟨ret_bool HD.out.symm, Foots p ω2, ⟨h, t2, ω2, HR.out.2, HR.out.1, rfl⟩, HM2.out.trans HM3.out⟩
  · have HR : Hid (del e (ents h t) = ents h t2 ∧ TreeAt B w2 p h t2 ω2) := by
      have h9 := HDL.out.2 he
      have h8 := G.keep he
      exact hid_mk ⟨G.ents.symm, ⟨by rw [Z.out, G.ents, h9, ta2, HTA.out], HAT.out.base, free2, G.good, by have := HAT.out.four; omega, fun h7 => by have := HAT.out.one h7; omega, by rw [G.ents]; exact srt_del e HAT.out.srt, T2, ok2⟩⟩
    have HD : Hid (decide (e ∈ ents h t) = false) := hid_mk (by simp [he])
    rw [decide_eq_false he]
    clear G
    go_wp2_with fail
    go_ret
    exact ⟨ret_bool HD.out.symm, Foots p ω2, ⟨h, t2, ω2, HR.out.2, HR.out.1, rfl⟩, HM2.out⟩

end Go.Proofs.Ytaoamkkgiiiejaa
