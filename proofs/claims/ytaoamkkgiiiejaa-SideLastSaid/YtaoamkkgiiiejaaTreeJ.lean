/- A tree: added to. -/
import Derived.Test.YtaoamkkgiiiejaaTreeI
namespace Go.Proofs.Ytaoamkkgiiiejaa
open Go.RowKit
set_option linter.unusedVariables false
attribute [local go_sem ↓] Go.wp_at_zero Go.wp_at_succ

theorem Tr.put {h : Nat} {w : World} {ω : Ow} {t : T} (ht : Tr h w ω t) {q : Addr} (hq : ω q.block = none) (x : Value) : Tr h (w.setCell q x) ω t := ⟨fun s hs => (ht.laid s hs).put hq x, ht.nodup⟩
theorem add_length {e : E} {L : List E} (hs : Srt L) : (add e L).length = if e ∈ L then L.length else L.length + 1 := by
  by_cases he : e ∈ L
  · rw [if_pos he]; unfold add; rw [if_pos he]
  · rw [if_neg he, ← leaf_ins hs he]; exact ins_length L (below e L).length e (List.length_filter_le _ _)

/-- A node without entries, above another one. -/
theorem Nd.above {B : Nat} {S : Nat → Prop} {w : World} {ω : Ow} (q : Nat) (hok : Okw B w ω) (hB : B ≤ w.heap.size) :
    ∃ ω', Nd ((w.alloc (.cells #[.pointer (some ⟨q, 0, none⟩)] 56)).alloc (.cells #[.slice none 0 0, .slice (some ⟨w.heap.size, 0, none⟩) 1 1] 61)) ω' (w.heap.size + 1) (.slice none 0 0) (.slice (some ⟨w.heap.size, 0, none⟩) 1 1) [] [q] ∧
      Stp S w ω ((w.alloc (.cells #[.pointer (some ⟨q, 0, none⟩)] 56)).alloc (.cells #[.slice none 0 0, .slice (some ⟨w.heap.size, 0, none⟩) 1 1] 61)) ω' ∧
      Okw B ((w.alloc (.cells #[.pointer (some ⟨q, 0, none⟩)] 56)).alloc (.cells #[.slice none 0 0, .slice (some ⟨w.heap.size, 0, none⟩) 1 1] 61)) ω' := by
  have h1 : (w.alloc (.cells #[.pointer (some ⟨q, 0, none⟩)] 56)).heap.size = w.heap.size + 1 := by simp
  have h2 := heap_alloc_new (w.alloc (.cells #[.pointer (some ⟨q, 0, none⟩)] 56)) (.cells #[.slice none 0 0, .slice (some ⟨w.heap.size, 0, none⟩) 1 1] 61)
  rw [h1] at h2
  have h3 := (heap_alloc_old (w.alloc (.cells #[.pointer (some ⟨q, 0, none⟩)] 56)) (.cells #[.slice none 0 0, .slice (some ⟨w.heap.size, 0, none⟩) 1 1] 61) (by omega : w.heap.size < _)).trans (heap_alloc_new w _)
  have bb : Below w.heap.size w ((w.alloc (.cells #[.pointer (some ⟨q, 0, none⟩)] 56)).alloc (.cells #[.slice none 0 0, .slice (some ⟨w.heap.size, 0, none⟩) 1 1] 61)) := bthen (balloc _) (balloc _)
  have hm : ∀ b, b < w.heap.size → (fun b => if b = w.heap.size ∨ b = w.heap.size + 1 then some (w.heap.size + 1) else ω b : Ow) b = ω b := fun b hb => by
    show (if _ then _ else _) = _
    rw [if_neg (by omega)]
  refine ⟨fun b => if b = w.heap.size ∨ b = w.heap.size + 1 then some (w.heap.size + 1) else ω b, ⟨h2, if_pos (.inr rfl), Rw.nil _ _ _ _, fun b hb => by simp [Value.ownBlock] at hb, ⟨rfl, .inr ⟨w.heap.size, 1, _, rfl, Nat.zero_le _, h3, Nat.le_refl _, by simp [maxLen], by simp, by simp [pcells]⟩⟩, fun b hb => ?_⟩,
    ⟨bb.os, bb.tape, bb.output, bb.size, fun b hb _ => bb.block b hb, hm, fun b hb a ha => ?_⟩, fun b a ha => ?_⟩
  · have e9 : w.heap.size = b := by simpa [Value.ownBlock] using hb
    exact if_pos (.inl e9.symm)
  · have ha' : (if b = w.heap.size ∨ b = w.heap.size + 1 then some (w.heap.size + 1) else ω b) = some a := ha
    right
    split at ha'
    · injection ha' with e; omega
    · have := hok b a ha'; omega
  · have ha' : (if b = w.heap.size ∨ b = w.heap.size + 1 then some (w.heap.size + 1) else ω b) = some a := ha
    simp only [World.size_alloc]
    split at ha'
    · injection ha' with e; omega
    · have := hok b a ha'; omega

set_option maxHeartbeats 4000000 in
set_option maxRecDepth 100000 in
theorem tadd_any (B p : Nat) (L : List E) (F : Nat → Prop) (e : E) (w : World) (H : Tree B w p L F) (hL : L.length < 1000000000000) :
    Calls Try.prog 13 #[.pointer (some ⟨p, 0, none⟩), .agg #[.string e.key, .int .i64 e.id]] w fun r w' => r = .returned (.bool (decide (e ∉ L))) ∧ ∃ F', Tree B w' p (add e L) F' ∧ Mv F F' w w' := by
  have HH := hid_mk H
  obtain ⟨h, t, ω, H, rfl, rfl⟩ := H
  have hB : B ≤ w.heap.size := HH.out.size.1
  have hp := H.lt
  have c0 : w.cell? ⟨p, 0, none⟩ = some (.pointer (some ⟨t.a, 0, none⟩)) := (cell_of_row w p 0 _ _ _ H.blk).trans rfl
  have c1 : w.cell? ⟨p, 1, none⟩ = some (.int .i64 ((ents h t).length : Nat)) := (cell_of_row w p 1 _ _ _ H.blk).trans rfl
  have f0 : w.frozen? ⟨p, 0, none⟩ = false := by simp [World.frozen?, H.blk]
  have f1 : w.frozen? ⟨p, 1, none⟩ = false := by simp [World.frozen?, H.blk]
  have hfree := H.free
  have HAT := hid_mk H
  have HB := hid_mk H.blk
  obtain ⟨N, hN⟩ : ∃ N, N = (ents h t).length := ⟨_, rfl⟩
  rw [← hN] at c1 hL
  have HN := hid_mk hN
  obtain ⟨ta, hta⟩ : ∃ ta, ta = t.a := ⟨_, rfl⟩
  rw [← hta] at c0
  have HTA := hid_mk hta
  have b0 : Below w.heap.size w (w.alloc (.cells #[.string e.key, .int .i64 e.id] 36)).drew := pw_below (n := 1) (balloc _)
  have T0 := hid_mk (H.tr.below H.ok b0)
  have ok0 : Okw B (w.alloc (.cells #[.string e.key, .int .i64 e.id] 36)).drew ω := H.ok.below b0
  have HOK0 := hid_mk ok0
  have hnone := H.ok.none (Nat.le_refl w.heap.size)
  have HNONE := hid_mk hnone
  have HFREE := hid_mk hfree
  have m0 := World.new_ne w ⟨p, 0, none⟩ c0
  have hsz0 : B ≤ (w.alloc (.cells #[.string e.key, .int .i64 e.id] 36)).drew.heap.size := by show B ≤ (w.alloc _).heap.size; simp; omega
  have hps : p < (w.alloc (.cells #[.string e.key, .int .i64 e.id] 36)).drew.heap.size := by show p < (w.alloc _).heap.size; simp; omega
  have hws : w.heap.size < (w.alloc (.cells #[.string e.key, .int .i64 e.id] 36)).drew.heap.size := by show w.heap.size < (w.alloc _).heap.size; simp
  have HW := hid_mk (And.intro hsz0 (And.intro hps hws))
  clear hN hta H hfree hnone ok0 hsz0 hps hws
  go_enter Try.func13, Try.ntmps13
  go_wp2_with fail
  go_region_held3 (fun w' => w'.cell? ⟨p, 0, none⟩ = some (.pointer (some ⟨ta, 0, none⟩)) ∧ w'.cell? ⟨w.heap.size, 0, none⟩ = some (.string e.key) ∧ w'.cell? ⟨w.heap.size, 1, none⟩ = some (.int .i64 e.id))
    ((first | go_keep | exact ⟨X1, X3, X4⟩))
    ((go_at_call 24; (rw [HTA.out]); refine (add_any B e h t ω _ HAT.out.good HAT.out.four HAT.out.srt T0.out HOK0.out HW.out.1).mono ?_; rintro r w2 ⟨ω2, t2, rfl, G, S2, ok2, T2, hA⟩;
      have X1 := (S2.cell (p := ⟨p, 0, none⟩) HW.out.2.1 (fun x hx => by rw [HFREE.out] at hx; cases hx)).trans (keep_cell b0 c0);
      have X2 := (S2.cell (p := ⟨p, 1, none⟩) HW.out.2.1 (fun x hx => by rw [HFREE.out] at hx; cases hx)).trans (keep_cell b0 c1);
      have Y0 := (S2.frozen (p := ⟨p, 0, none⟩) HW.out.2.1 (fun x hx => by rw [HFREE.out] at hx; cases hx)).trans (((bcell b0).2 p 0 hp).trans f0);
      have Y1 := (S2.frozen (p := ⟨p, 1, none⟩) HW.out.2.1 (fun x hx => by rw [HFREE.out] at hx; cases hx)).trans (((bcell b0).2 p 1 hp).trans f1);
      have X3 := (S2.cell (p := ⟨w.heap.size, 0, none⟩) HW.out.2.2 (fun x hx => by rw [HNONE.out] at hx; cases hx)).trans ((cell_of_row _ _ _ _ _ _ (heap_alloc_new w _)).trans rfl);
      have X4 := (S2.cell (p := ⟨w.heap.size, 1, none⟩) HW.out.2.2 (fun x hx => by rw [HNONE.out] at hx; cases hx)).trans ((cell_of_row _ _ _ _ _ _ (heap_alloc_new w _)).trans rfl)))
  have Z := hid_mk ((S2.block p HW.out.2.1 (fun x hx => by rw [HFREE.out] at hx; cases hx)).trans ((b0.block p hp).trans HB.out))
  have ta2 : t2.a = ta := G.addr.trans HTA.out.symm
  have free2 : ω2 p = none := (S2.same p HW.out.2.1).trans HFREE.out
  have M2 : Mv (Foots p ω) (Foots p ω2) w w2 := (Mv.of_below b0).trans S2.mv
  obtain ⟨v2, u2, N2⟩ := T2.top
  obtain ⟨A2, cap2, rfl, _, _⟩ := N2.lany
  have d0 := N2.cells.1
  rw [ta2] at d0
  have hpt : ¬ p = ta := fun e9 => by have h9 := N2.own0; rw [ta2, ← e9, free2] at h9; cases h9
  have hptl : p < w2.heap.size := World.block_lt_of_cell? w2 _ X1
  have htal : ta < w2.heap.size := World.block_lt_of_cell? w2 _ d0
  have HM2 := hid_mk M2
  have hlen := add_length (e := e) HAT.out.srt
  clear S2 X3 X4 hA c0 c1 f0 f1 b0 M2
  by_cases he : e ∈ ents h t
  · rw [if_pos he, ← HN.out] at hlen
    have hk := G.keep he
    have hf := HAT.out.four
    have HHE := hid_mk he
    have HR : Hid (add e (ents h t) = ents h t2 ∧ TreeAt B w2 p h t2 ω2) := hid_mk ⟨G.ents.symm, ⟨by rw [Z.out, G.ents, hlen, ta2, HTA.out, HN.out], HAT.out.base, free2, G.good, by omega, fun h9 => by have := HAT.out.one h9; omega, by rw [G.ents]; exact srt_add e HAT.out.srt, T2, ok2⟩⟩
    have HD : Hid (decide (e ∉ ents h t) = false) := hid_mk (by simp [he])
    clear hlen hk hf
    go_wp2_with fail
    go_ret
    exact ⟨ret_bool HD.out.symm, Foots p ω2, ⟨h, t2, ω2, HR.out.2, HR.out.1, rfl⟩, HM2.out⟩
  · rw [if_neg he, ← HN.out] at hlen
    have hcast : (((ents h t2).length : Nat) : Int) = (N : Int) + 1 := by rw [G.ents, hlen]; omega
    have HC := hid_mk hcast
    have HD : Hid (decide (e ∉ ents h t) = true) := hid_mk (by simp [he])
    have hhi := G.hi
    have hf := HAT.out.four
    have hlo := G.lo
    have hZ : (w2.setCell ⟨p, 1, none⟩ (.int .i64 ((N : Int) + 1))).heap[p]? = some (.cells #[.pointer (some ⟨ta, 0, none⟩), .int .i64 ((N : Int) + 1)] 58 (0, 0)) := by
      have h9 := Z.out
      rw [← HTA.out] at h9
      exact block_setCell h9 1 _ (by simp)
    have T3 := T2.put (q := ⟨p, 1, none⟩) free2 (.int .i64 ((N : Int) + 1))
    have ok3 := ok2.put ⟨p, 1, none⟩ (.int .i64 ((N : Int) + 1))
    have M3 : Mv (Foots p ω2) (Foots p ω2) w2 (w2.setCell ⟨p, 1, none⟩ (.int .i64 ((N : Int) + 1))) := Mv.setCell _ (.inl rfl)
    have HZ := hid_mk hZ
    have HT3 := hid_mk T3
    have HO3 := hid_mk ok3
    have HM3 := hid_mk M3
    clear hcast hlen hZ T3 ok3 M3
    by_cases h5 : t2.l.length ≤ 4
    · have h5' : (t2.l.length : Int) ≤ 4 := by omega
      have HR : Hid (add e (ents h t) = ents h t2 ∧ TreeAt B (w2.setCell ⟨p, 1, none⟩ (.int .i64 ((N : Int) + 1))) p h t2 ω2) := hid_mk ⟨G.ents.symm, ⟨by rw [HZ.out, HC.out, ta2], HAT.out.base, free2, G.good, h5, fun h9 => by have := HAT.out.one h9; omega, by rw [G.ents]; exact srt_add e HAT.out.srt, HT3.out, HO3.out⟩⟩
      go_wp2_with fail
      go_ret
      exact ⟨ret_bool HD.out.symm, Foots p ω2, ⟨h, t2, ω2, HR.out.2, HR.out.1, rfl⟩, HM2.out.trans HM3.out⟩
    · have h5' : t2.l.length = 5 := by omega
      have h5i : (4 : Int) < (t2.l.length : Int) := by omega
      go_wp2_with fail
      have hsz : ((w2.setCell ⟨p, 1, none⟩ (.int .i64 ((N : Int) + 1))).setCell ⟨p, 0, none⟩ (.pointer (some ⟨w2.heap.size + 1, 0, none⟩))).heap.size = w2.heap.size := by simp
      have T4' := HT3.out.put (q := ⟨p, 0, none⟩) free2 (.pointer (some ⟨w2.heap.size + 1, 0, none⟩))
      have ok4' := HO3.out.put ⟨p, 0, none⟩ (.pointer (some ⟨w2.heap.size + 1, 0, none⟩))
      have z4' := block_setCell HZ.out 0 (.pointer (some ⟨w2.heap.size + 1, 0, none⟩)) (by simp)
      obtain ⟨ω4, N5, s4, ok5⟩ := Nd.above (S := fun _ => False) ta ok4' (by rw [hsz]; have := HAT.out.base; omega)
      have free4 : ω4 p = none := (s4.same p (by rw [hsz]; omega)).trans free2
      have T5 := T4'.kept s4 (fun _ _ h => h)
      have z5 := (heap_alloc_old (((w2.setCell ⟨p, 1, none⟩ (.int .i64 ((N : Int) + 1))).setCell ⟨p, 0, none⟩ (.pointer (some ⟨w2.heap.size + 1, 0, none⟩))).alloc (.cells #[.pointer (some ⟨ta, 0, none⟩)] 56)) (.cells #[.slice none 0 0, .slice (some ⟨((w2.setCell ⟨p, 1, none⟩ (.int .i64 ((N : Int) + 1))).setCell ⟨p, 0, none⟩ (.pointer (some ⟨w2.heap.size + 1, 0, none⟩))).heap.size, 0, none⟩) 1 1] 61) (by simp; omega : p < _)).trans ((heap_alloc_old _ _ (by rw [hsz]; omega)).trans z4')
      rw [hsz] at N5 s4 ok5 T5 z5
      have hnew : ∀ x ∈ addrs h t2, x < w2.heap.size := fun x hx => T2.lt hx
      have TT : Tr (h + 1) _ ω4 (.node (w2.heap.size + 1) [] ([] ++ t2 :: [])) := Tr.mk' ⟨_, _, by rw [show ([] ++ t2 :: [] : List T).map T.a = [ta] from by simp [ta2]]; exact N5⟩ (fun k hk q hq => by
        have e9 : k = t2 := by simpa using hk
        subst e9
        exact T5.laid q hq) (by
        rw [List.nil_append, F_cons, show F h [] = [] from rfl, List.append_nil]
        exact List.nodup_cons.2 ⟨fun hx => by have := hnew _ hx; omega, T2.nodup⟩)
      have hpc : (t2.ks.map T.a).length = 0 ∨ (t2.ks.map T.a).length = 6 := by
        rw [List.length_map]
        have h9 := G.good
        cases h with
        | zero => exact .inl (by rw [show t2.ks = [] from h9]; rfl)
        | succ h => exact .inr (by have h8 : t2.ks.length = t2.l.length + 1 := h9.1; omega)
      have Nt := T5.top
      rw [ta2] at Nt
      have hBs : B ≤ w2.heap.size := by have := T2.lt (addrs_self h t2); have := HAT.out.base; omega
      refine (heal_great B (w2.heap.size + 1) ta 0 ω4 [] t2.l [ta] (t2.ks.map T.a) _ ⟨_, _, N5⟩ Nt ok5 (by simp; omega) ok5.own (by simp) rfl (by omega) h5' hpc (Nat.zero_le _) (by simp) (by simp)).mono ?_
      rintro r w6 ⟨rfl, n, ω6, hn, s6, ok6, Na, Ns, Nn⟩
      obtain ⟨p1, p2, p3⟩ := parted n G.good h5'
      rw [← List.map_take] at Ns
      rw [← List.map_drop] at Nn
      obtain ⟨T6, _, _⟩ := TT.part (l' := [ge t2.l 2]) hn (by rw [ta2]; exact s6) (by
        have h9 : Node w6 ω6 (w2.heap.size + 1) [ge t2.l 2] [ta, n] := Na
        rw [← ta2] at h9
        exact h9) (by rw [ta2]; exact Ns) Nn
      have z6 := (s6.block p (by simp; omega) (fun x hx => by rw [free4] at hx; cases hx)).trans z5
      have free6 : ω6 p = none := (s6.same p (by simp; omega)).trans free4
      have e6 : ents (h + 1) (.node (w2.heap.size + 1) [ge t2.l 2] ([] ++ .node t2.a (t2.l.take 2) (t2.ks.take 3) :: .node n (t2.l.drop 3) (t2.ks.drop 3) :: [])) = ents h t2 := by
        rw [p1]
        simp [ents, inter, post, T.l, T.ks]
      have HR : Hid (add e (ents h t) = ents (h + 1) (.node (w2.heap.size + 1) [ge t2.l 2] ([] ++ .node t2.a (t2.l.take 2) (t2.ks.take 3) :: .node n (t2.l.drop 3) (t2.ks.drop 3) :: [])) ∧ TreeAt B w6 p (h + 1) (.node (w2.heap.size + 1) [ge t2.l 2] ([] ++ .node t2.a (t2.l.take 2) (t2.ks.take 3) :: .node n (t2.l.drop 3) (t2.ks.drop 3) :: [])) ω6) := by
        refine hid_mk ⟨by rw [e6]; exact G.ents.symm, ⟨by rw [z6, e6, HC.out]; rfl, HAT.out.base, free6, ⟨rfl, fun k hk => ?_⟩, by simp [T.l], fun _ => by simp [T.l], by rw [e6, G.ents]; exact srt_add e HAT.out.srt, T6, ok6⟩⟩
        have hk' : k = .node t2.a (t2.l.take 2) (t2.ks.take 3) ∨ k = .node n (t2.l.drop 3) (t2.ks.drop 3) := by simpa [T.ks] using hk
        rcases hk' with rfl | rfl
        · exact ⟨p2, by show 2 ≤ (t2.l.take 2).length; simp; omega, by show (t2.l.take 2).length ≤ 4; simp; omega⟩
        · exact ⟨p3, by show 2 ≤ (t2.l.drop 3).length; simp; omega, by show (t2.l.drop 3).length ≤ 4; simp; omega⟩
      have M6 := hid_mk ((HM2.out.trans HM3.out).trans (((Mv.setCell (a := ⟨p, 0, none⟩) (.pointer (some ⟨w2.heap.size + 1, 0, none⟩)) (.inl rfl)).trans (s4.mv (p := p))).trans (s6.mv (p := p))))
      clear T6 z6 z5 z4' s6 s4 N5 T5 T4' TT Nt Na Ns Nn ok4' ok5 ok6 p1 p2 p3 e6
      go_wp2_with fail
      go_ret
      exact ⟨ret_bool HD.out.symm, Foots p ω6, ⟨h + 1, _, ω6, HR.out.2, HR.out.1, rfl⟩, M6.out⟩

end Go.Proofs.Ytaoamkkgiiiejaa
