/- With, walked. -/
import Derived.Test.YtanomhjekdefeaaTreeZa
namespace Go.Proofs.Ytanomhjekdefeaa
open Go.RowKit
set_option linter.unusedVariables false
attribute [local go_sem ↓] Go.wp_at_zero Go.wp_at_succ

theorem nb_eq : ∀ b c : Bool, ((!b) == c) = (b != c) := by decide
/-- One more entry at the end of a row of them. -/
theorem app_ent {B : Nat} {w : World} {A : Option Addr} {n cap : Nat} {O : List E} (h : Rw B w 34 2 (.slice A n cap) n (ecells O)) (hn : n = O.length) (hB : B ≤ w.heap.size) (x : E) (hlen : n < 100001) (q : Nat) (hq : q = w.heap.size) :
    ∃ A3 cap3 w3, (Builtin.append_ #[25, 25] 25 #[.slice A n cap, .slice (some ⟨q, 0, none⟩) 1 1]).run Try.prog (w.alloc (.cells #[.string x.key, .int .i64 x.id] 34)) = .ok (.slice A3 (n + 1) cap3) w3 ∧
      Rw B w3 34 2 (.slice A3 (n + 1) cap3) (n + 1) (ecells (O ++ [x])) ∧ Below B w w3 ∧ (∀ k o, (Value.slice A n cap).ownBlock ≠ some k → w.heap[k]? = some o → w3.heap[k]? = some o ∧ (Value.slice A3 (n + 1) cap3).ownBlock ≠ some k) := by
  subst hq
  obtain ⟨i0, hi0, hz0, hzs, hzb⟩ := info_parts infoE
  obtain ⟨v3, w3, hr, R3, M3⟩ := run_app_rw (P := Try.prog) (h.below (balloc (.cells #[.string x.key, .int .i64 x.id] 34))) (by simp; omega) 25 25 i0 _ 24 Try.underlying25 hi0 hz0 hzs hzb rfl (by omega) ⟨w.heap.size, 0, none⟩ 1 1 (by omega) [.string x.key, .int .i64 x.id] rfl
    (fun j u hu => by rw [add0, cell_of_row _ _ _ _ _ _ (heap_alloc_new w _)]; simpa using hu) (by intro u hu; simp at hu; rcases hu with rfl | rfl <;> rfl) (by omega) (by omega)
  obtain ⟨A3, c3, rfl, _, _, _⟩ := R3.shape
  refine ⟨A3, c3, w3, hr, by rw [ecells_append]; exact R3, (balloc' hB).trans (M3.below (fun j hj => (h.lt j hj).1) (by simp; omega)), fun k o hk ho => ?_⟩
  have hlt : k < w.heap.size := lt_of_block ho
  refine ⟨M3.at_ ((heap_alloc_old w _ hlt).trans ho) fun h9 => hk h9, fun h9 => ?_⟩
  rcases M3.new _ h9 with h8 | h8
  · exact hk h8
  · simp at h8; omega

set_option maxHeartbeats 2000000 in
set_option maxRecDepth 100000 in
theorem with_any (B : Nat) (L : List E) (v : Value) (e : E) (inn : Bool) (w : World) (hv : Rw B w 34 2 v L.length (ecells L)) (hs : Srt L) (hL : L.length < 3000) :
    Calls Try.prog 13 #[v, .agg #[.string e.key, .int .i64 e.id], .bool inn] w fun r w' => ∃ u, r = .returned (.tuple #[u, .bool (decide (e ∈ L) != inn)]) ∧ Rw w.heap.size w' 34 2 u (withL inn e L).length (ecells (withL inn e L)) ∧ Below w.heap.size w w' := by
  obtain ⟨A, cap, rfl, hc, hm, hA⟩ := rw_ents hv
  have HP := hid_mk (with_pure e inn L hs)
  clear hv hs
  go_enter Try.func13, Try.ntmps13
  go_wp2_with fail
  obtain ⟨w0, hw0⟩ : ∃ w0, w0 = w.alloc (.cells #[.string e.key, .int .i64 e.id] 34) := ⟨_, rfl⟩
  rw [← hw0]
  have B0 : Below w.heap.size w w0 := by rw [hw0]; exact balloc _
  have X0 : Hid (w0.heap[w.heap.size]? = some (.cells #[.string e.key, .int .i64 e.id] 34 (0, 0))) := hid_mk (by rw [hw0]; exact heap_alloc_new w _)
  clear hw0
  go_loopw [8, 9, 10, 17] (fun o ws pt iv wr => ∃ (k : Nat) (s : Ws), iv = .int .i64 k ∧ k ≤ L.length ∧ ws = .bool s.was ∧ pt = .bool s.put ∧ Hid (s = wrun e ⟨[], false, !inn⟩ (L.take k)) ∧ Hid (Rw w.heap.size wr 34 2 o s.o.length (ecells s.o)) ∧ o.ownBlock ≠ some w.heap.size ∧ Below w.heap.size w wr ∧
    Hid (wr.heap[w.heap.size]? = some (.cells #[.string e.key, .int .i64 e.id] 34 (0, 0)))) (fun _ _ _ iv _ => L.length - (intOf iv).toNat)
  case atStart => exact ⟨0, ⟨[], false, !inn⟩, rfl, Nat.zero_le _, rfl, rfl, rfl, Rw.nil _ _ _ _, by simp [Value.ownBlock], B0, X0⟩
  case round =>
    clear B0 X0
    obtain ⟨k, s, rfl, hk, rfl, rfl, HS, R, hne, hb, X⟩ := hrel
    have hX := lt_of_block X.out
    have g0 := (cell_of_row wr _ 0 _ _ _ X.out).trans rfl
    have g1 := (cell_of_row wr _ 1 _ _ _ X.out).trans rfl
    have hle := wrun_le e ⟨[], false, !inn⟩ (L.take k)
    rw [← HS.out, List.length_take] at hle
    simp only [List.length_nil, Nat.zero_add] at hle
    obtain ⟨so, sw, sp⟩ := s
    simp only at hle
    obtain ⟨n, hn⟩ : ∃ n, n = so.length := ⟨_, rfl⟩
    have R' : Hid (Rw w.heap.size wr 34 2 _ n (ecells so)) := hid_mk (by rw [hn]; exact R.out)
    obtain ⟨Ao, co, rfl, _, _, _⟩ := R'.out.shape
    have HN := hid_mk hn
    have hn9 : n < 100000 := by rw [hn]; omega
    clear R hle hn
    by_cases hlt : k < L.length
    · obtain ⟨g, rfl, hg, hx⟩ := hA (by omega)
      obtain ⟨x, hx0⟩ : ∃ x, x = ge L k := ⟨_, rfl⟩
      have d0 := keep_cell hb (hx k hlt).1
      have d1 := keep_cell hb (hx k hlt).2
      have HW := hid_mk (wrun_succ e ⟨[], false, !inn⟩ L k hlt)
      rw [← hx0, ← HS.out] at HW
      rw [← hx0] at d0 d1
      clear hx hx0
      by_cases hxe : x = e
      · subst hxe
        have e1 : wstep x ⟨so, sw, sp⟩ x = ⟨so, true, sp⟩ := if_pos rfl
        rw [e1] at HW
        have RE := hid_mk (R'.out.below (balloc (.cells #[.string x.key, .int .i64 x.id] 34)))
        have XE := hid_mk ((heap_alloc_old wr (.cells #[.string x.key, .int .i64 x.id] 34) hX).trans X.out)
        have BE := hb.trans (balloc' (o := .cells #[.string x.key, .int .i64 x.id] 34) hb.size)
        clear e1 R' X
        go_wp2_with fail
        exact ⟨⟨k + 1, ⟨so, true, sp⟩, by go_num, by omega, rfl, rfl, HW.out.symm, hid_mk (HN.out ▸ RE.out), hne, BE, XE⟩, by simp [intOf]; omega⟩
      · have hq : ¬ x.key.toList = e.key.toList ∨ (x.key.toList = e.key.toList ∧ ¬ x.id = e.id) := by
          by_cases h9 : x.key.toList = e.key.toList
          · refine .inr ⟨h9, fun h8 => hxe ?_⟩
            rw [Lib.toList_data, Lib.toList_data] at h9
            rcases x with ⟨⟨⟨xk⟩⟩, xi⟩
            rcases e with ⟨⟨⟨ek⟩⟩, ei⟩
            simp only at h9 h8
            rw [h9, h8]
          · exact .inl h9
        have HXE := hid_mk hxe
        clear hxe
        cases sp with
        | true =>
          have e1 : wstep e ⟨so, sw, true⟩ x = ⟨so ++ [x], sw, true⟩ := (if_neg HXE.out).trans (if_neg (by simp))
          rw [e1] at HW
          obtain ⟨A3, c3, w3, hr, R3, b3, K3⟩ := app_ent (R'.out.below (balloc (.cells #[.string x.key, .int .i64 x.id] 34))) HN.out (by have := hb.size; simp; omega) x (by omega) (wr.heap.size + 1) (by simp)
          have hb3 := hb.trans ((balloc' (o := .cells #[.string x.key, .int .i64 x.id] 34) hb.size).trans b3)
          have X3 := K3 _ _ hne ((heap_alloc_old wr (.cells #[.string x.key, .int .i64 x.id] 34) hX).trans X.out)
          have HX3 := hid_mk X3.1
          have hne3 := X3.2
          have HR3 : Hid (Rw w.heap.size w3 34 2 (.slice A3 (n + 1) c3) (so ++ [x]).length (ecells (so ++ [x]))) := hid_mk (by rw [List.length_append, ← HN.out]; exact R3)
          clear R3 b3 K3 X3 e1 R'
          rcases hq with hq | ⟨hq, hq2⟩
          all_goals
            go_wp2_with (at_builtin; refine Lib.wpList_append_run _ rfl _ _ 25 25 rfl _ _ rfl rfl _ _ hr ?_)
            exact ⟨⟨k + 1, ⟨so ++ [x], sw, true⟩, by go_num, by omega, rfl, rfl, HW.out.symm, HR3, hne3, hb3, HX3⟩, by simp [intOf]; omega⟩
        | false =>
          have XX := (heap_alloc_old wr (.cells #[.string x.key, .int .i64 x.id] 34) hX).trans X.out
          have YX := heap_alloc_new wr (.cells #[.string x.key, .int .i64 x.id] 34)
          have RE := hid_mk (R'.out.below (balloc (.cells #[.string x.key, .int .i64 x.id] 34)))
          have hneX : (Value.slice Ao n co).ownBlock ≠ some wr.heap.size := fun h9 => by have := (R'.out.lt _ h9).2; omega
          have HXX := hid_mk XX
          have HYX := hid_mk YX
          have hbs := hb.size
          clear XX YX R' X
          by_cases hl : lt e x
          · have e1 : wstep e ⟨so, sw, false⟩ x = ⟨so ++ [e] ++ [x], sw, true⟩ := (if_neg HXE.out).trans (if_pos (by simp [hl]))
            rw [e1] at HW
            have HL := hid_mk (decide_eq_true hl)
            clear e1 hl
            rcases hq with hq | ⟨hq, hq2⟩
            all_goals
              go_wp2_with fail
              refine (lawbelow_any e x _).mono ?_
              rintro r w4 ⟨rfl, b4⟩
              rw [HL.out]
              have hs4 := b4.size
              have R4 := RE.out.below b4
              have X4 := below_block b4 (lt_of_block HXX.out) HXX.out
              have Y4 := below_block b4 (lt_of_block HYX.out) HYX.out
              have hs4' : wr.heap.size + 1 ≤ w4.heap.size := by simpa using hs4
              have hb4 := hb.trans ((balloc' (o := .cells #[.string x.key, .int .i64 x.id] 34) hb.size).trans (b4.mono (by simp; omega)))
              have f0 := (cell_of_row w4 _ 0 _ _ _ X4).trans rfl
              have f1 := (cell_of_row w4 _ 1 _ _ _ X4).trans rfl
              obtain ⟨A5, c5, w5, hr5, R5, b5, K5⟩ := app_ent R4 HN.out (by omega) e (by omega) w4.heap.size rfl
              obtain ⟨X5, hne5⟩ := K5 _ _ hne X4
              obtain ⟨Y5, hneX5⟩ := K5 _ _ hneX Y4
              have m0 := (cell_of_row w5 _ 0 _ _ _ Y5).trans rfl
              have m1 := (cell_of_row w5 _ 1 _ _ _ Y5).trans rfl
              have hs5 := b5.size
              have hb5 := hb4.trans b5
              obtain ⟨A6, c6, w6, hr6, R6, b6, K6⟩ := app_ent R5 (by rw [List.length_append, ← HN.out]; rfl) (by have := hb5.size; omega) x (by omega) w5.heap.size rfl
              obtain ⟨X6, hne6⟩ := K6 _ _ hne5 X5
              have hb6 := hb5.trans b6
              have HR6 : Hid (Rw w.heap.size w6 34 2 (.slice A6 (n + 1 + 1) c6) (so ++ [e] ++ [x]).length (ecells (so ++ [e] ++ [x]))) := hid_mk (by rw [List.length_append, List.length_append, ← HN.out]; exact R6)
              have HX6 := hid_mk X6
              have HR5 := hid_mk R5
              clear R4 R5 R6 X6 K6 K5 Y4 X4 X5 Y5 b4 b5 b6 hb4 hb5
              go_wp2_with (at_builtin; refine Lib.wpList_append_run _ rfl _ _ 25 25 rfl _ _ rfl rfl _ _ (by first | exact hr5 | exact hr6) ?_)
              exact ⟨⟨k + 1, ⟨so ++ [e] ++ [x], sw, true⟩, by go_num, by omega, rfl, rfl, HW.out.symm, HR6, hne6, hb6, HX6⟩, by simp [intOf]; omega⟩
          · have e1 : wstep e ⟨so, sw, false⟩ x = ⟨so ++ [x], sw, false⟩ := (if_neg HXE.out).trans (if_neg (by simp [hl]))
            rw [e1] at HW
            have HL := hid_mk (decide_eq_false hl)
            clear e1 hl
            rcases hq with hq | ⟨hq, hq2⟩
            all_goals
              go_wp2_with fail
              refine (lawbelow_any e x _).mono ?_
              rintro r w4 ⟨rfl, b4⟩
              rw [HL.out]
              have hs4 := b4.size
              have R4 := RE.out.below b4
              have X4 := below_block b4 (lt_of_block HXX.out) HXX.out
              have Y4 := below_block b4 (lt_of_block HYX.out) HYX.out
              have hs4' : wr.heap.size + 1 ≤ w4.heap.size := by simpa using hs4
              have hb4 := hb.trans ((balloc' (o := .cells #[.string x.key, .int .i64 x.id] 34) hb.size).trans (b4.mono (by simp; omega)))
              have m0 := (cell_of_row w4 _ 0 _ _ _ Y4).trans rfl
              have m1 := (cell_of_row w4 _ 1 _ _ _ Y4).trans rfl
              obtain ⟨A5, c5, w5, hr5, R5, b5, K5⟩ := app_ent R4 HN.out (by omega) x (by omega) w4.heap.size rfl
              obtain ⟨X5, hne5⟩ := K5 _ _ hne X4
              have hb5 := hb4.trans b5
              have HR5 : Hid (Rw w.heap.size w5 34 2 (.slice A5 (n + 1) c5) (so ++ [x]).length (ecells (so ++ [x]))) := hid_mk (by rw [List.length_append, ← HN.out]; exact R5)
              have HX5 := hid_mk X5
              clear R4 R5 K5 Y4 X4 X5 b4 b5 hb4
              go_wp2_with (at_builtin; refine Lib.wpList_append_run _ rfl _ _ 25 25 rfl _ _ rfl rfl _ _ hr5 ?_)
              exact ⟨⟨k + 1, ⟨so ++ [x], sw, false⟩, by go_num, by omega, rfl, rfl, HW.out.symm, HR5, hne5, hb5, HX5⟩, by simp [intOf]; omega⟩
    · obtain rfl : k = L.length := by omega
      have hS := HS.out
      rw [List.take_length] at hS
      have hp := HP.out
      rw [← hS] at hp
      have HWAS : Hid (sw = decide (e ∈ L)) := hid_mk hp.2
      cases sp with
      | true =>
        have HO : Hid (so = withL inn e L) := hid_mk hp.1
        have HRR : Hid (Rw w.heap.size wr 34 2 (.slice Ao n co) (withL inn e L).length (ecells (withL inn e L))) := hid_mk (by rw [← HO.out, ← HN.out]; exact R'.out)
        clear hp hS R' HS
        go_wp2_with fail
        go_ret2
        exact ⟨.slice Ao n co, by rw [HWAS.out]; first | exact congrArg (fun z => Ending.returned (.tuple #[.slice Ao n co, .bool z])) (nb_eq (decide (e ∈ L)) inn) | (cases inn <;> cases decide (e ∈ L) <;> rfl), HRR.out, hb⟩
      | false =>
        have HO : Hid (so ++ [e] = withL inn e L) := hid_mk hp.1
        obtain ⟨A5, c5, w5, hr5, R5, b5, K5⟩ := app_ent R'.out HN.out hb.size e (by omega) wr.heap.size rfl
        have hb5 := hb.trans b5
        have HRR : Hid (Rw w.heap.size w5 34 2 (.slice A5 (n + 1) c5) (withL inn e L).length (ecells (withL inn e L))) := hid_mk (by rw [← HO.out, List.length_append, ← HN.out]; exact R5)
        clear hp hS R' HS R5 b5 K5
        go_wp2_with (at_builtin; refine Lib.wpList_append_run _ rfl _ _ 25 25 rfl _ _ rfl rfl _ _ hr5 ?_)
        go_ret2
        exact ⟨.slice A5 (n + 1) c5, by rw [HWAS.out]; first | exact congrArg (fun z => Ending.returned (.tuple #[.slice A5 (n + 1) c5, .bool z])) (nb_eq (decide (e ∈ L)) inn) | (cases inn <;> cases decide (e ∈ L) <;> rfl), HRR.out, hb5⟩

end Go.Proofs.Ytanomhjekdefeaa
