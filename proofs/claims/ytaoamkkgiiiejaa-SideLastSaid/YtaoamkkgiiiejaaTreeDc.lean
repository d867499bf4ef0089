/- Two nodes made one. -/
import Derived.Test.YtaoamkkgiiiejaaTreeDb
namespace Go.Proofs.Ytaoamkkgiiiejaa
open Go.RowKit
set_option linter.unusedVariables false
attribute [local go_sem ↓] Go.wp_at_zero Go.wp_at_succ

section
variable {P : Program} {B C : Nat} {w : World} {e : TypeId} {size n m : Nat} {v u : Value} {xs ys : List Value}
theorem run_app_none (w : World) (t ty e : TypeId) (i : TypeInfo) (ht : P.underlying t = some (.slice e)) (hi : P.info? e = some i) (b A : Option Addr) (n cap c : Nat) (h : n ≤ cap) :
    (Builtin.append_ #[t, t] ty #[.slice b n cap, .slice A 0 c]).run P w = .ok (.slice b n cap) w := by
  cases b <;> cases A <;> simp [Builtin.append_, run_underlying ht, sizeOf, typeInfo, hi, Builtin.lenOf, Builtin.firstCells, h, storeCells, loadCells, loadCellsFrom]
/-- append(v, u...): both rows are known. -/
theorem run_app_rows (h : Rw B w e size v n xs) (hu : Rw C w e size u m ys) (hB : B ≤ w.heap.size) (t ty : TypeId) (i0 : TypeInfo) (z : Value) (bytes : Nat) (ht : P.underlying t = some (.slice e)) (hi : P.info? e = some i0) (hz : i0.zero = some z) (hsize : i0.size = size) (hby : i0.bytes = bytes)
    (hzs : z.cells.size = size) (hsz : 0 < size) (h1 : ∀ u ∈ ys, u.oneCell' = true) (hbig : (n + m) * bytes ≤ 140737488355328) (hn : n + m ≤ 140737488355328) :
    ∃ v' w', (Builtin.append_ #[t, t] ty #[v, u]).run P w = .ok v' w' ∧ Rw B w' e size v' (n + m) (xs ++ ys) ∧ Mv (own v) (own v') w w' := by
  obtain ⟨A, c, rfl, _, _, hA0, hA⟩ := hu.shape
  by_cases hm : m = 0
  · subst hm
    obtain ⟨b, cap, rfl, hc, _, _⟩ := h.shape
    have hy : ys = [] := List.eq_nil_of_length_eq_zero (by simpa using hu.1)
    subst hy
    exact ⟨_, _, run_app_none w t ty e i0 ht hi b A n cap c hc, by rw [List.append_nil]; exact h, Mv.refl _ _⟩
  · rcases A with _ | A
    · exact absurd (hA0 rfl).1 hm
    · obtain ⟨g, rfl, _, _, _, hc⟩ := hA _ rfl
      exact run_app_rw h hB t ty i0 z bytes ht hi hz hsize hby hzs hsz ⟨g, 0, none⟩ m c (by omega) ys hu.1 (fun j x hx => by rw [add0]; exact hc j x hx) h1 hbig hn
end

set_option maxHeartbeats 4000000 in
set_option maxRecDepth 100000 in
theorem join_any (B a p q j : Nat) (ω : Ow) (l lp lq : List E) (ps pp pq : List Nat) (w : World) (ha : Node w ω a l ps) (hp : Node w ω p lp pp) (hq : Node w ω q lq pq) (hok : Okw B w ω) (hB : B ≤ w.heap.size)
    (hap : a ≠ p) (haq : a ≠ q) (hpq : p ≠ q) (hjl1 : j + 1 < ps.length) (hjp : ps[j]? = some p) (hKq : ps[j + 1]? = some q) (hjl : j < l.length)
    (hl : l.length < 1000) (hpl : ps.length < 1000) (hlp : lp.length < 1000) (hlq : lq.length < 1000) (hppl : pp.length < 1000) (hpql : pq.length < 1000) :
    Calls Try.prog 52 #[.pointer (some ⟨a, 0, none⟩), .int .i64 (j : Int)] w fun e w' => e = .returned (.tuple #[]) ∧ Three B a p q w ω (l.take j ++ l.drop (j + 1)) (lp ++ ge l j :: lq) lq (ps.take (j + 1) ++ ps.drop (j + 2)) (pp ++ pq) pq w' := by
  have HA0 := hid_mk ha
  have HP0 := hid_mk hp
  have HQ0 := hid_mk hq
  obtain ⟨va, ua, ha⟩ := ha
  obtain ⟨vp, up, hp⟩ := hp
  obtain ⟨vq, uq, hq⟩ := hq
  obtain ⟨iE, hiE, hzE, hsE, hbE⟩ := info_parts infoE
  have HIE := hid_mk (And.intro hiE (And.intro hzE (And.intro hsE hbE)))
  obtain ⟨iN, hiN, hzN, hsN, hbN⟩ := info_parts infoN
  have HIN := hid_mk (And.intro hiN (And.intro hzN (And.intro hsN hbN)))
  clear hiE hzE hsE hbE hiN hzN hsN hbN
  obtain ⟨gk, kcap, rfl, hkc, hkm, hgk, hkcell⟩ := ha.kshape (by omega)
  obtain ⟨gl, lcap, rfl, hlc, hlm, hgl, hlcell⟩ := ha.lshape (by omega)
  obtain ⟨Ap, cp, rfl, hpc, hpm⟩ := hp.lany
  obtain ⟨Aq, cq, rfl, hqc, hqm⟩ := hq.lany
  obtain ⟨a0, a1, af0, af1⟩ := ha.cells
  obtain ⟨p0, p1, pf0, pf1⟩ := hp.cells
  obtain ⟨q0, q1, qf0, qf1⟩ := hq.cells
  have kj := hkcell j (by omega)
  have kK := hkcell (j + 1) hjl1
  rw [List.getElem?_eq_getElem (by omega)] at hjp hKq
  injection hjp with hjp
  injection hKq with hKq
  rw [hjp] at kj
  rw [hKq] at kK
  obtain ⟨X, hX⟩ : ∃ X, X = ge l j := ⟨_, rfl⟩
  obtain ⟨x0, x1⟩ := hlcell j hjl
  rw [← hX] at x0 x1
  have HX := hid_mk hX
  have hw1 : IntKind.i64.wrap ((j : Int) + 1) = (j : Int) + 1 := by rw [IntKind.wrap_i64]; omega
  have hw2 : IntKind.i64.wrap ((j : Int) + 2) = (j : Int) + 2 := by rw [IntKind.wrap_i64]; omega
  have j0 : (0 : Int) ≤ (j : Int) := by omega
  have j1 : (j : Int) < (ps.length : Int) := by omega
  have j2 : (j : Int) < (l.length : Int) := by omega
  have k0 : (0 : Int) ≤ (j : Int) + 1 := by omega
  have k1 : (j : Int) + 1 < (ps.length : Int) := by omega
  have k2 : ((j : Int) + 1).toNat = j + 1 := by omega
  clear hkcell hlcell hX hjp hKq
  go_enter Try.func52, Try.ntmps52
  go_wp2_with fail
  go_quiet (fail)
  go_wp2_with fail
  have bw : Below w.heap.size w (w.drewN nq) := pw_below (Below.refl _ _)
  obtain ⟨w1, hw1'⟩ : ∃ w1, w1 = w.drewN nq := ⟨_, rfl⟩
  rw [← hw1'] at bw ⊢
  have ok1 := hok.below bw
  have ha1 := ha.below hok bw
  have hp1 := hp.below hok bw
  have hq1 := hq.below hok bw
  have hs1 := bw.size
  have SW : Hid (Stp (fun x => x = a ∨ x = p ∨ x = q) w ω w1 ω) := hid_mk (Stp.of_below hok bw)
  have hB1 : B ≤ w1.heap.size := by omega
  have HOK1 := hid_mk ok1
  have HQ1 := hid_mk (HQ0.out.below hok bw)
  have HA1 := hid_mk ha1
  go_cut [] (fun wx => Three B a p q w ω l (lp ++ X :: lq) lq ps pp pq wx)
  case first =>
    obtain ⟨a0', a1', af0', af1'⟩ := ha1.cells
    obtain ⟨p0', p1', pf0', pf1'⟩ := hp1.cells
    obtain ⟨q0', q1', qf0', qf1'⟩ := hq1.cells
    have x0' := keep_cell bw x0
    have x1' := keep_cell bw x1
    have hpl' : ∀ b, own (.slice Ap lp.length cp) b → b < w1.heap.size ∧ b ≠ p := fun b hb => ⟨(hp1.lst.lt b hb).2, fun e => hp1.lst.ne hp1.blk (by decide) (e ▸ hb)⟩
    have bb : Below w1.heap.size w1 (w1.alloc (.cells #[.string X.key, .int .i64 X.id] 36)).drew := pw_below (n := 1) (balloc _)
    have m0 := World.new_ne w1 ⟨p, 0, none⟩ p0'
    have m2 := World.new_ne w1 ⟨q, 0, none⟩ q0'
    have hplt := hp1.lt
    have hqlt := hq1.lt
    have hqp := (hq1.apart hp1 (Ne.symm hpq)).1
    have hqd : ∀ b, own (.slice Aq lq.length cq) b → ¬ own (.slice Ap lp.length cp) b := fun b hb hb' => (hqp b hb').2.1 hb
    have hqs : ∀ b, own (.slice Aq lq.length cq) b → b < w1.heap.size := fun b hb => (hq1.lst.lt b hb).2
    have hqn : ¬ own (.slice Ap lp.length cp) q := fun h9 => (hqp q h9).1 rfl
    obtain ⟨v3, w3, hr, hv3, m3⟩ := run_app_rw (P := Try.prog) (hp1.lst.below bb) (Nat.zero_le _) 40 40 iE _ 24 Try.underlying40 HIE.out.1 HIE.out.2.1 HIE.out.2.2.1 HIE.out.2.2.2 rfl (by omega) ⟨w1.heap.size, 0, none⟩ 1 1 (by omega) [.string X.key, .int .i64 X.id] rfl
      (fun i u hu => by rw [add0, cell_of_row _ _ _ _ _ _ (show (w1.alloc (.cells #[.string X.key, .int .i64 X.id] 36)).drew.heap[w1.heap.size]? = _ from heap_alloc_new w1 _)]; simpa using hu) (by intro u hu; simp at hu; rcases hu with rfl | rfl <;> rfl) (by omega) (by omega)
    have D3 := m3.cell (keep_cell bb q0') hqn
    have hrow3 : Rw 0 w3 36 2 (.slice Aq lq.length cq) lq.length (ecells lq) := (hq1.lst.below bb).stays fun b hb => m3.block b (by have := hqs b hb; have := bb.size; omega) (hqd b hb)
    obtain ⟨v4, w4, hr2, hv4, m4⟩ := run_app_rows (P := Try.prog) hv3 hrow3 (Nat.zero_le _) 40 40 iE _ 24 Try.underlying40 HIE.out.1 HIE.out.2.1 HIE.out.2.2.1 HIE.out.2.2.2 rfl (by omega) (ecells_one _) (by omega) (by omega)
    obtain ⟨A3, cap3, rfl, _, _, _⟩ := hv3.shape
    obtain ⟨A4, cap4, rfl, _, _, _⟩ := hv4.shape
    have m34 := m3.trans m4
    have C4 := m34.cell (keep_cell bb p0') (fun h9 => (hpl' _ h9).2 rfl)
    have F4 := (m34.frozen (a := ⟨p, 0, none⟩) (by show p < (w1.alloc _).heap.size; simp; omega) (fun h9 => (hpl' _ h9).2 rfl)).trans (((bcell bb).2 p 0 hplt).trans pf0')
    have row4 : Rw 0 w4 36 2 (.slice A4 (lp.length + 1 + lq.length) cap4) (lp ++ X :: lq).length (ecells (lp ++ X :: lq)) := by
      have e1 : (lp ++ X :: lq).length = lp.length + 1 + lq.length := by simp; omega
      have e2 : ecells (lp ++ X :: lq) = ecells lp ++ [.string X.key, .int .i64 X.id] ++ ecells lq := by rw [ecells_append, ecells_cons, List.append_assoc]
      rw [e1, e2]; exact hv4
    obtain ⟨ω3, hp3, s3, ok3⟩ := hp1.toList ok1 hB1 bb m34 row4
    have HR := hid_mk ((Three.p_ hap hpq ⟨_, _, HA1.out⟩ HQ1.out s3 ok3 hp3).seq hok SW.out)
    clear s3 ok3 hp3 row4 hv3 hv4 m3 m4 m34 hpl' bb hw1' a0 a1 af0 af1 p0 p1 pf0 pf1 q0 q1 qf0 qf1 x0 x1 kj kK hqp hqd hqs hqn hrow3
    go_region_law (first | (refine step_append_runR rfl (.tmp 25) (.tmp 33) 40 40 rfl _ _ (by simp [Act.eval]) (by simp [Act.eval]) hr ?_) | (refine step_append_runR rfl (.tmp 34) (.tmp 38) 40 40 rfl _ _ (by simp [Act.eval]) (by simp [Act.eval]) hr2 ?_))
    all_goals
      go_wp2_with fail
      go_meet
      case rel => exact HR.out
  case rest =>
    clear hw1' a0 a1 af0 af1 p0 p1 pf0 pf1 q0 q1 qf0 qf1 x0 x1 kj kK ha1 hp1 hq1 HA1 HQ1 HOK1 SW ok1 ha hp hq HA0 HP0 HQ0 bw hs1 hB1 hlc hlm hpc hpm hgl hqc hqm
    obtain ⟨ω2, S2, ok2, A2, P2, Q2⟩ := hcut
    have HS2 := hid_mk S2
    have HA2 := hid_mk A2
    have HQ2 := hid_mk Q2
    have hB2 : B ≤ wc.heap.size := Nat.le_trans hB S2.size
    obtain ⟨vp2, up2, p2⟩ := P2
    obtain ⟨vq2, uq2, q2⟩ := Q2
    obtain ⟨Up, upc, rfl, hupc, hupm⟩ := p2.kany
    obtain ⟨Uq, uqc, rfl, huqc, huqm⟩ := q2.kany
    obtain ⟨p0, p1, pf0, pf1⟩ := p2.cells
    obtain ⟨q0, q1, qf0, qf1⟩ := q2.cells
    have bb : Below wc.heap.size wc wc.drew := pw_below (n := 1) (Below.refl _ _)
    obtain ⟨v3, w3, hr, hv3, m3⟩ := run_app_rows (P := Try.prog) (p2.kds.below bb) (q2.kds.below bb) (Nat.zero_le _) 59 59 iN _ 8 Try.underlying59 HIN.out.1 HIN.out.2.1 HIN.out.2.2.1 HIN.out.2.2.2 rfl (by omega) (pcells_one _) (by omega) (by omega)
    obtain ⟨A3, cap3, rfl, _, _, _⟩ := hv3.shape
    have hpo : ¬ own (.slice Up pp.length upc) p := fun h9 => p2.kds.ne p2.blk (by decide) h9
    have C3 := m3.cell (keep_cell bb p1) hpo
    have F3 := (m3.frozen (a := ⟨p, 1, none⟩) p2.lt hpo).trans (((bcell bb).2 p 1 p2.lt).trans pf1)
    have row3 : Rw 0 w3 56 1 (.slice A3 (pp.length + pq.length) cap3) (pp ++ pq).length (pcells (pp ++ pq)) := by rw [List.length_append, pcells_append]; exact hv3
    obtain ⟨ω3, hp3, s3, ok3⟩ := p2.toKids ok2 hB2 bb m3 row3
    have HR := hid_mk ((Three.p_ hap hpq HA2.out HQ2.out s3 ok3 hp3).seq hok HS2.out)
    clear s3 ok3 hp3 row3 hv3 m3 hpo p2 q2 S2 A2
    go_wp2_with fail
    go_cut [] (fun wx => Three B a p q w ω l (lp ++ X :: lq) lq ps (pp ++ pq) pq wx)
    case first =>
      go_region_law (refine step_append_runR rfl (.tmp 46) (.tmp 50) 59 59 rfl _ _ (by simp [Act.eval]) (by simp [Act.eval]) hr ?_)
      all_goals
        go_wp2_with fail
        go_meet
        case rel => exact HR.out
    case rest =>
      clear HR hr C3 F3 bb p0 p1 pf0 pf1 q0 q1 qf0 qf1 HA2 HQ2 HS2 ok2 hB2 hupc hupm huqc huqm
      obtain ⟨ω3, S3, ok3, A3, P3, Q3⟩ := hcut
      have HS3 := hid_mk S3
      have HP3 := hid_mk P3
      have HQ3 := hid_mk Q3
      obtain ⟨va3, ua3, a3⟩ := A3
      obtain ⟨Al, alcap, rfl, hlc, hlm⟩ := a3.lany
      obtain ⟨Ak, akcap, rfl, hkc3, hkm3⟩ := a3.kany
      obtain ⟨a0, a1, af0, af1⟩ := a3.cells
      have hB3 : B ≤ wc.heap.size := Nat.le_trans hB S3.size
      have HA3 := hid_mk a3
      have HRD : Hid (ecells (l.take j ++ l.drop (j + 1)) = (ecells l).take (j * 2) ++ (ecells l).drop ((j + 1) * 2)) := hid_mk (by rw [ecells_append, ecells_take, ecells_drop])
      clear a3 S3 P3 Q3
      go_wp2_with fail
      refine (deleteE_any 0 _ l.length j j ((j : Int) + 1) (ecells l) _ HA3.out.lst (ecells_one _) hjl (by omega) rfl rfl _ HRD).mono ?_
      rintro e w4 ⟨v4, rfl, hv4, m4⟩
      obtain ⟨A4, cap4, rfl, _, _, _⟩ := hv4.shape
      have row4 : Rw 0 w4 36 2 (.slice A4 (l.length - 1) cap4) (l.take j ++ l.drop (j + 1)).length (ecells (l.take j ++ l.drop (j + 1))) := by
        have e1 : (l.take j ++ l.drop (j + 1)).length = l.length - 1 := by simp; omega
        rw [e1]; exact hv4
      obtain ⟨ω4, hA4, s4, ok4⟩ := HA3.out.toList ok3 hB3 (Below.refl _ _) m4 row4
      have H4 := hid_mk ((Three.a_ hap haq HP3.out HQ3.out s4 ok4 hA4).seq hok HS3.out)
      have hao : ¬ own (.slice Al l.length alcap) a := fun h9 => HA3.out.lst.ne HA3.out.blk (by decide) h9
      have d0 := m4.cell a0 hao
      have df0 := (m4.frozen (a := ⟨a, 0, none⟩) HA3.out.lt hao).trans af0
      obtain ⟨N, hN⟩ : ∃ N, N = l.length - 1 := ⟨_, rfl⟩
      rw [← hN] at H4 ⊢
      obtain ⟨W5, hW5⟩ : ∃ W5, W5 = w4.setCell ⟨a, 0, none⟩ (.slice A4 N cap4) := ⟨_, rfl⟩
      rw [← hW5] at H4
      obtain ⟨ω5, S5, ok5, A5, P5, Q5⟩ := H4.out
      have HS5 := hid_mk S5
      have HP5 := hid_mk P5
      have HQ5 := hid_mk Q5
      obtain ⟨va5, ua5, a5⟩ := A5
      obtain ⟨Bk, bkcap, rfl, hkc5, hkm5⟩ := a5.kany
      obtain ⟨e0, e1, ef0, ef1⟩ := a5.cells
      have hB5 : B ≤ W5.heap.size := Nat.le_trans hB S5.size
      have HA5 := hid_mk a5
      have HRN : Hid (pcells (ps.take (j + 1) ++ ps.drop (j + 2)) = (pcells ps).take ((j + 1) * 1) ++ (pcells ps).drop ((j + 1 + 1) * 1)) := hid_mk (by rw [pcells_append, pcells_take, pcells_drop])
      have HW5 := hid_mk hW5
      have e1' := e1
      rw [hW5] at e1'
      clear hN row4 s4 ok4 hA4 m4 hv4 hao S5 P5 Q5 a5 hW5 e0 e1 ef0 ef1 a1 hkc3 hkm3 af1 HA3 HP3 HQ3 HS3
      go_wp2_with fail
      rw [← HW5.out]
      refine (deleteN_any 0 _ ps.length (j + 1) ((j : Int) + 1) ((j : Int) + 2) (pcells ps) _ HA5.out.kds (pcells_one _) hjl1 (by omega) (by omega) (by omega) _ HRN).mono ?_
      rintro e w6 ⟨v6, rfl, hv6, m6⟩
      obtain ⟨A6, cap6, rfl, _, _, _⟩ := hv6.shape
      have row6 : Rw 0 w6 56 1 (.slice A6 (ps.length - 1) cap6) (ps.take (j + 1) ++ ps.drop (j + 2)).length (pcells (ps.take (j + 1) ++ ps.drop (j + 2))) := by
        have e1 : (ps.take (j + 1) ++ ps.drop (j + 2)).length = ps.length - 1 := by simp; omega
        rw [e1]; exact hv6
      obtain ⟨ω6, hA6, s6, ok6⟩ := HA5.out.toKids ok5 hB5 (Below.refl _ _) m6 row6
      have H6 := hid_mk ((Three.a_ hap haq HP5.out HQ5.out s6 ok6 hA6).seq hok HS5.out)
      have hao : ¬ own (.slice Bk ps.length bkcap) a := fun h9 => HA5.out.kds.ne HA5.out.blk (by decide) h9
      obtain ⟨e0, e1, ef0, ef1⟩ := HA5.out.cells
      have d1 := m6.cell e1 hao
      have df1 := (m6.frozen (a := ⟨a, 1, none⟩) HA5.out.lt hao).trans ef1
      clear row6 s6 ok6 hA6 m6 hv6 hao e0 e1 ef0 ef1 d0 df0 a0 af0
      go_wp2_with fail
      first | go_end0 | (refine bodyPost_ret (results_none rfl _ _ _) rfl ?_)
      refine ⟨rfl, ?_⟩
      have h9 := H6.out
      rw [HX.out] at h9
      exact h9

end Go.Proofs.Ytaoamkkgiiiejaa
