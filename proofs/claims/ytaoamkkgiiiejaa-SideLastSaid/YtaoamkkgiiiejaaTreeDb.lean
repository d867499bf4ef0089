/- An entry moved to a node from the one right of it. -/
import Derived.Test.YtaoamkkgiiiejaaTreeDa
namespace Go.Proofs.Ytaoamkkgiiiejaa
open Go.RowKit
set_option linter.unusedVariables false
attribute [local go_sem ↓] Go.wp_at_zero Go.wp_at_succ

theorem step_append_runR {P : Program} {ops : Array Oper} {o : Oper} {a : Act} {w : World} {K : Act → World → Prop} {Q : Exit → Act → World → Prop} {E : Prop}
    (hg : o.guard = none) (d x : Operand) (dT sT : TypeId) (hop : o.op = Op.call { callee := Callee.builtin Builtin.append, args := #[d, x], argTypes := #[dT, sT] })
    (v u : Value) (hd : a.eval d = v) (hx : a.eval x = u) {v' : Value} {w' : World} (hr : (Builtin.append_ #[dT, sT] o.type #[v, u]).run P w = .ok v' w') (hK : K (a.put o.dst v') w') :
    if Region.wanted o (yielded ops a.tmps) = true then Oper.wp P o a w K Q else E := by
  have hw : Region.wanted o (yielded ops a.tmps) = true := by simp [Region.wanted, hg]
  rw [if_pos hw]
  unfold Oper.wp
  simp [execOp, hop, resolve, invoke, builtin, hd, hx, hr, Result.andThen]
  exact hK

theorem take_one : ∀ (l : List Nat) (C : Nat) (h : 0 < l.length), C = l[0] → l.take 1 = [C]
  | c :: r, C, _, hC => by simp [hC]

set_option maxHeartbeats 4000000 in
set_option maxRecDepth 100000 in
theorem fromRight_any (B a p q j : Nat) (ω : Ow) (l lp lq : List E) (ps pp pq : List Nat) (w : World) (ha : Node w ω a l ps) (hp : Node w ω p lp pp) (hq : Node w ω q lq pq) (hok : Okw B w ω) (hB : B ≤ w.heap.size)
    (hap : a ≠ p) (haq : a ≠ q) (hpq : p ≠ q) (hjl1 : j + 1 < ps.length) (hjp : ps[j]? = some p) (hKq : ps[j + 1]? = some q) (hjl : j < l.length) (h0 : 0 < lq.length) (hqq : pq.length = 0 ∨ pq.length = lq.length + 1)
    (hl : l.length < 1000) (hpl : ps.length < 1000) (hlp : lp.length < 1000) (hlq : lq.length < 1000) (hppl : pp.length < 1000) :
    Calls Try.prog 51 #[.pointer (some ⟨a, 0, none⟩), .int .i64 (j : Int)] w fun e w' => e = .returned (.tuple #[]) ∧ Three B a p q w ω (l.set j (ge lq 0)) (lp ++ [ge l j]) (lq.drop 1) ps (pp ++ pq.take 1) (pq.drop 1) w' := by
  have HA0 := hid_mk ha
  have HP0 := hid_mk hp
  have HQ0 := hid_mk hq
  obtain ⟨va, ua, ha⟩ := ha
  obtain ⟨vp, up, hp⟩ := hp
  obtain ⟨vq, uq, hq⟩ := hq
  obtain ⟨iE, hiE, hzE, hsE, hbE⟩ := info_parts infoE
  have HIE := hid_mk (And.intro hiE (And.intro hzE (And.intro hsE hbE)))
  obtain ⟨iN, hiN, hzN, hsN, hbN⟩ := info_parts infoN
  have HIN := hid_mk (And.intro hiN (And.intro hzN (And.intro hsN hbN)))
  clear hiE hzE hsE hbE hiN hzN hsN hbN
  obtain ⟨gk, kcap, rfl, hkc, hkm, hgk, hkcell⟩ := ha.kshape (by omega)
  obtain ⟨gl, lcap, rfl, hlc, hlm, hgl, hlcell⟩ := ha.lshape (by omega)
  obtain ⟨Ap, cp, rfl, hpc, hpm⟩ := hp.lany
  obtain ⟨a0, a1, af0, af1⟩ := ha.cells
  obtain ⟨p0, p1, pf0, pf1⟩ := hp.cells
  have kj := hkcell j (by omega)
  have kK := hkcell (j + 1) hjl1
  rw [List.getElem?_eq_getElem (by omega)] at hjp hKq
  injection hjp with hjp
  injection hKq with hKq
  rw [hjp] at kj
  rw [hKq] at kK
  obtain ⟨X, hX⟩ : ∃ X, X = ge l j := ⟨_, rfl⟩
  obtain ⟨x0, x1⟩ := hlcell j hjl
  rw [← hX] at x0 x1
  have HX := hid_mk hX
  have hw1 : IntKind.i64.wrap ((j : Int) + 1) = (j : Int) + 1 := by rw [IntKind.wrap_i64]; omega
  have j0 : (0 : Int) ≤ (j : Int) := by omega
  have j1 : (j : Int) < (ps.length : Int) := by omega
  have j2 : (j : Int) < (l.length : Int) := by omega
  have k0 : (0 : Int) ≤ (j : Int) + 1 := by omega
  have k1 : (j : Int) + 1 < (ps.length : Int) := by omega
  have k2 : ((j : Int) + 1).toNat = j + 1 := by omega
  clear hkcell hlcell hX hjp hKq
  go_enter Try.func51, Try.ntmps51
  go_wp2_with fail
  go_quiet (fail)
  go_wp2_with fail
  have bw : Below w.heap.size w (w.drewN nq) := pw_below (Below.refl _ _)
  obtain ⟨w1, hw1'⟩ : ∃ w1, w1 = w.drewN nq := ⟨_, rfl⟩
  rw [← hw1'] at bw ⊢
  have ok1 := hok.below bw
  have ha1 := ha.below hok bw
  have hp1 := hp.below hok bw
  have hs1 := bw.size
  have SW : Hid (Stp (fun x => x = a ∨ x = p ∨ x = q) w ω w1 ω) := hid_mk (Stp.of_below hok bw)
  have hB1 : B ≤ w1.heap.size := by omega
  have HOK1 := hid_mk ok1
  have HQ1 := hid_mk (HQ0.out.below hok bw)
  have HA1 := hid_mk ha1
  go_cut [] (fun wx => Three B a p q w ω l (lp ++ [X]) lq ps pp pq wx)
  case first =>
    obtain ⟨a0', a1', af0', af1'⟩ := ha1.cells
    obtain ⟨p0', p1', pf0', pf1'⟩ := hp1.cells
    have x0' := keep_cell bw x0
    have x1' := keep_cell bw x1
    have hpl' : ∀ b, own (.slice Ap lp.length cp) b → b < w1.heap.size ∧ b ≠ p := fun b hb => ⟨(hp1.lst.lt b hb).2, fun e => hp1.lst.ne hp1.blk (by decide) (e ▸ hb)⟩
    have bb : Below w1.heap.size w1 (w1.alloc (.cells #[.string X.key, .int .i64 X.id] 36)).drew := pw_below (n := 1) (balloc _)
    have m0 := World.new_ne w1 ⟨p, 0, none⟩ p0'
    have hplt := hp1.lt
    obtain ⟨v3, w3, hr, hv3, m3⟩ := run_app_rw (P := Try.prog) (hp1.lst.below bb) (Nat.zero_le _) 40 40 iE _ 24 Try.underlying40 HIE.out.1 HIE.out.2.1 HIE.out.2.2.1 HIE.out.2.2.2 rfl (by omega) ⟨w1.heap.size, 0, none⟩ 1 1 (by omega) [.string X.key, .int .i64 X.id] rfl
      (fun i u hu => by rw [add0, cell_of_row _ _ _ _ _ _ (show (w1.alloc (.cells #[.string X.key, .int .i64 X.id] 36)).drew.heap[w1.heap.size]? = _ from heap_alloc_new w1 _)]; simpa using hu) (by intro u hu; simp at hu; rcases hu with rfl | rfl <;> rfl) (by omega) (by omega)
    obtain ⟨A3, cap3, rfl, _, _, _⟩ := hv3.shape
    have C3 := m3.cell (keep_cell bb p0') (fun h9 => (hpl' _ h9).2 rfl)
    have F3 := (m3.frozen (a := ⟨p, 0, none⟩) (by show p < (w1.alloc _).heap.size; simp; omega) (fun h9 => (hpl' _ h9).2 rfl)).trans (((bcell bb).2 p 0 hplt).trans pf0')
    have row3 : Rw 0 w3 36 2 (.slice A3 (lp.length + 1) cap3) (lp ++ [X]).length (ecells (lp ++ [X])) := by rw [List.length_append, ecells_append]; exact hv3
    obtain ⟨ω3, hp3, s3, ok3⟩ := hp1.toList ok1 hB1 bb m3 row3
    have HR := hid_mk ((Three.p_ hap hpq ⟨_, _, HA1.out⟩ HQ1.out s3 ok3 hp3).seq hok SW.out)
    clear s3 ok3 hp3 row3 hv3 m3 hpl' bb hw1' a0 a1 af0 af1 p0 p1 pf0 pf1 x0 x1 kj kK
    go_region_law (refine step_append_runR rfl (.tmp 25) (.tmp 33) 40 40 rfl _ _ (by simp [Act.eval]) (by simp [Act.eval]) hr ?_)
    all_goals
      go_wp2_with fail
      go_meet
      case rel => exact HR.out
  case rest =>
    clear hw1' a0 a1 af0 af1 p0 p1 pf0 pf1 x0 x1 kj kK ha1 hp1 HA1 HQ1 HOK1 SW ok1 ha hp hq HA0 HP0 HQ0 bw hs1 hB1 hlc hlm hpc hpm hgl
    obtain ⟨ω2, S2, ok2, A2, P2, Q2⟩ := hcut
    have HS2 := hid_mk S2
    have HP2 := hid_mk P2
    have HQ2 := hid_mk Q2
    obtain ⟨va2, ua2, a2⟩ := A2
    obtain ⟨vq2, uq2, q2⟩ := Q2
    obtain ⟨gl2, lcap2, rfl, hlc, hlm, hgl, hlcell⟩ := a2.lshape (by omega)
    obtain ⟨gq, qcap, rfl, hqc, hqm, hgq, hqcell⟩ := q2.lshape h0
    obtain ⟨a0, a1, af0, af1⟩ := a2.cells
    obtain ⟨q0, q1, qf0, qf1⟩ := q2.cells
    obtain ⟨z0, z1⟩ := hlcell j hjl
    obtain ⟨y0, y1⟩ := hqcell 0 h0
    simp only [Nat.zero_mul, Nat.zero_add] at y0 y1
    obtain ⟨Y, hY⟩ : ∃ Y, Y = ge lq 0 := ⟨_, rfl⟩
    rw [← hY] at y0 y1
    have HY := hid_mk hY
    have M1 : (0 : Int) < (lq.length : Int) := by omega
    have zf0 := a2.lfree (j * 2)
    have zf1 := a2.lfree (j * 2 + 1)
    have HSE := hid_mk (a2.setEnt ok2 hjl Y)
    clear hlcell hqcell hY a2 q2 S2 P2
    go_wp2_with fail
    go_cut [] (fun wx => Three B a p q w ω (l.set j Y) (lp ++ [X]) lq ps pp pq wx)
    case first =>
      go_region
      all_goals
        have HR := hid_mk ((Three.a_ hap haq HP2.out HQ2.out HSE.out.2.1 HSE.out.2.2 ⟨_, _, HSE.out.1⟩).drew.seq hok HS2.out)
        go_wp2_with fail
        go_meet
        case rel => exact HR.out
    case rest =>
      clear HSE zf0 zf1 z0 z1 y0 y1 a0 a1 af0 af1 q0 q1 qf0 qf1 hlc hlm hgl hqc hqm hgq HP2 HQ2 HS2 ok2
      obtain ⟨ω3, S3, ok3, A3, P3, Q3⟩ := hcut
      have HS3 := hid_mk S3
      have HA3 := hid_mk A3
      have HP3 := hid_mk P3
      obtain ⟨vq3, uq3, q3⟩ := Q3
      obtain ⟨Aq, qcap3, rfl, hqc, hqm⟩ := q3.lany
      obtain ⟨U, ucap, rfl, huc, hum⟩ := q3.kany
      obtain ⟨q0, q1, qf0, qf1⟩ := q3.cells
      have hB3 : B ≤ wc.heap.size := Nat.le_trans hB S3.size
      have HQ3 := hid_mk q3
      have HRD : Hid (ecells (lq.drop 1) = (ecells lq).take (0 * 2) ++ (ecells lq).drop ((0 + 1) * 2)) := hid_mk (by rw [ecells_drop]; rfl)
      clear q3 A3 P3 S3
      go_wp2_with fail
      refine (deleteE_any 0 _ lq.length 0 0 1 (ecells lq) _ HQ3.out.lst (ecells_one _) h0 (by omega) rfl rfl _ HRD).mono ?_
      rintro e w4 ⟨v4, rfl, hv4, m4⟩
      obtain ⟨A4, cap4, rfl, _, _, _⟩ := hv4.shape
      have row4 : Rw 0 w4 36 2 (.slice A4 (lq.length - 1) cap4) (lq.drop 1).length (ecells (lq.drop 1)) := by rw [List.length_drop]; exact hv4
      obtain ⟨ω4, Q4, s4, ok4⟩ := HQ3.out.toList ok3 hB3 (Below.refl _ _) m4 row4
      have H4 := hid_mk ((Three.q_ haq hpq HA3.out HP3.out s4 ok4 Q4).seq hok HS3.out)
      have hqa : ¬ own (.slice Aq lq.length qcap3) q := fun h9 => HQ3.out.lst.ne HQ3.out.blk (by decide) h9
      have d0 := m4.cell q0 hqa
      have d1 := m4.cell q1 hqa
      have df0 := (m4.frozen (a := ⟨q, 0, none⟩) HQ3.out.lt hqa).trans qf0
      obtain ⟨N, hN⟩ : ∃ N, N = lq.length - 1 := ⟨_, rfl⟩
      rw [← hN] at H4 ⊢
      have c4 : (w4.setCell ⟨q, 0, none⟩ (.slice A4 N cap4)).cell? ⟨q, 1, none⟩ = some (.slice U pq.length ucap) := by go_simp
      have HN := hid_mk hN
      clear hN row4 s4 ok4 Q4 m4 hv4 hqa
      go_wp2_with fail
      refine (leaf_any q pq.length ucap U _ c4).mono ?_
      rintro e w5 ⟨rfl, rfl⟩
      rcases hqq with hqq | hqq
      · have hps : pq = [] := List.eq_nil_of_length_eq_zero hqq
        have hpn : pq.length = 0 := hqq
        go_wp2_with fail
        first | go_end0 | (refine bodyPost_ret (results_none rfl _ _ _) rfl ?_)
        refine ⟨rfl, ?_⟩
        have h9 := H4.out
        rw [HX.out, HY.out, hps] at h9
        rw [hps]
        simpa using h9
      · have hpn : ¬ pq.length = 0 := by omega
        clear c4 q0 q1 qf0 qf1 hqc hqm hB3 d0 d1 df0 HQ3 HA3 HP3 HS3 ok3
        have HPP := hid_mk hqq
        go_wp2_with fail
        obtain ⟨W5, hW5⟩ : ∃ W5, W5 = w4.setCell ⟨q, 0, none⟩ (.slice A4 N cap4) := ⟨_, rfl⟩
        rw [← hW5] at H4 ⊢
        clear hW5
        obtain ⟨ω4, S4, ok4, A4', P4, Q4⟩ := H4.out
        have HS4 := hid_mk S4
        have HA4 := hid_mk A4'
        have HQ4 := hid_mk Q4
        have hB4 : B ≤ W5.heap.size := Nat.le_trans hB S4.size
        obtain ⟨vq4, uq4, q4⟩ := Q4
        obtain ⟨vp4, up4, p4⟩ := P4
        obtain ⟨Up, upcap, rfl, hupc, hupm⟩ := p4.kany
        obtain ⟨gkq, qkcap, rfl, hqkc, hqkm, hgkq, hqkcell⟩ := q4.kshape (by omega)
        obtain ⟨C, hC⟩ : ∃ C, C = pq[0]'(by omega) := ⟨_, rfl⟩
        have kc := hqkcell 0 (by omega)
        rw [← hC] at kc
        have HC : Hid (pq.take 1 = [C]) := hid_mk (take_one pq C (by omega) hC)
        have N1 : (0 : Int) < (pq.length : Int) := by omega
        have N2 : 0 < pq.length := by omega
        obtain ⟨p0, p1, pf0, pf1⟩ := p4.cells
        obtain ⟨q0, q1, qf0, qf1⟩ := q4.cells
        have hplt := p4.lt
        have hpl' : ∀ b, own (.slice Up pp.length upcap) b → b < W5.heap.size ∧ b ≠ p := fun b hb => ⟨(p4.kds.lt b hb).2, fun e => p4.kds.ne p4.blk (by decide) (e ▸ hb)⟩
        have bb : Below W5.heap.size W5 (W5.alloc (.cells #[.pointer (some ⟨C, 0, none⟩)] 56)).drew := pw_below (n := 1) (balloc _)
        have m0 := World.new_ne W5 ⟨p, 1, none⟩ p1
        obtain ⟨v3, w3, hr, hv3, m3⟩ := run_app_rw (P := Try.prog) (p4.kds.below bb) (Nat.zero_le _) 59 59 iN _ 8 Try.underlying59 HIN.out.1 HIN.out.2.1 HIN.out.2.2.1 HIN.out.2.2.2 rfl (by omega) ⟨W5.heap.size, 0, none⟩ 1 1 (by omega) [.pointer (some ⟨C, 0, none⟩)] rfl
          (fun i u hu => by rw [add0, cell_of_row _ _ _ _ _ _ (show (W5.alloc (.cells #[.pointer (some ⟨C, 0, none⟩)] 56)).drew.heap[W5.heap.size]? = _ from heap_alloc_new W5 _)]; simpa using hu) (by intro u hu; simp at hu; subst hu; rfl) (by omega) (by omega)
        obtain ⟨A3, cap3, rfl, _, _, _⟩ := hv3.shape
        have C3 := m3.cell (keep_cell bb p1) (fun h9 => (hpl' _ h9).2 rfl)
        have F3 := (m3.frozen (a := ⟨p, 1, none⟩) (by show p < (W5.alloc _).heap.size; simp; omega) (fun h9 => (hpl' _ h9).2 rfl)).trans (((bcell bb).2 p 1 hplt).trans pf1)
        have row3 : Rw 0 w3 56 1 (.slice A3 (pp.length + 1) cap3) (pp ++ [C]).length (pcells (pp ++ [C])) := by rw [List.length_append, pcells_append]; exact hv3
        obtain ⟨ω3', hp3, s3, ok3⟩ := p4.toKids ok4 hB4 bb m3 row3
        have HR := hid_mk ((Three.p_ hap hpq HA4.out HQ4.out s3 ok3 hp3).seq hok HS4.out)
        clear hqq hqkcell hC S4 A4' q4 p4 s3 ok3 hp3 row3 hv3 m3 hpl' bb
        go_cut [] (fun wx => Three B a p q w ω (l.set j Y) (lp ++ [X]) (lq.drop 1) ps (pp ++ [C]) pq wx)
        case first =>
          go_region_law (refine step_append_runR rfl (.tmp 64) (.tmp 71) 59 59 rfl _ _ (by simp [Act.eval]) (by simp [Act.eval]) hr ?_)
          all_goals
            go_wp2_with fail
            go_meet
            case rel => exact HR.out
        case rest =>
          clear HR hr C3 F3 m0 q0 q1 qf0 qf1 p0 p1 pf0 pf1 kc HQ4 HA4 HS4 ok4 hB4 hupc hupm hqkc hqkm hgkq hplt
          obtain ⟨ω5, S5, ok5, A5, P5, Q5⟩ := hcut
          have hB5 : B ≤ wc.heap.size := Nat.le_trans hB S5.size
          obtain ⟨vq5, uq5, q5⟩ := Q5
          obtain ⟨Uq, uqcap, rfl, huqc, huqm⟩ := q5.kany
          obtain ⟨q0, q1, qf0, qf1⟩ := q5.cells
          have HQ5 := hid_mk q5
          have HS5 := hid_mk S5
          have HA5 := hid_mk A5
          have HP5 := hid_mk P5
          have HRN : Hid (pcells (pq.drop 1) = (pcells pq).take (0 * 1) ++ (pcells pq).drop ((0 + 1) * 1)) := hid_mk (by rw [pcells_drop]; simp)
          clear S5 A5 P5 q5
          go_wp2_with fail
          refine (deleteN_any 0 _ pq.length 0 0 1 (pcells pq) _ HQ5.out.kds (pcells_one _) (by omega) (by have := HPP.out; omega) rfl rfl _ HRN).mono ?_
          rintro e w6 ⟨v6, rfl, hv6, m6⟩
          obtain ⟨A6, cap6, rfl, _, _, _⟩ := hv6.shape
          have row6 : Rw 0 w6 56 1 (.slice A6 (pq.length - 1) cap6) (pq.drop 1).length (pcells (pq.drop 1)) := by rw [List.length_drop]; exact hv6
          obtain ⟨ω6, Q6, s6, ok6⟩ := HQ5.out.toKids ok5 hB5 (Below.refl _ _) m6 row6
          have H6 := hid_mk ((Three.q_ haq hpq HA5.out HP5.out s6 ok6 Q6).seq hok HS5.out)
          have hqa : ¬ own (.slice Uq pq.length uqcap) q := fun h9 => HQ5.out.kds.ne HQ5.out.blk (by decide) h9
          have d1 := m6.cell q1 hqa
          have df1 := (m6.frozen (a := ⟨q, 1, none⟩) HQ5.out.lt hqa).trans qf1
          clear row6 s6 ok6 Q6 m6 hv6 hqa
          go_wp2_with fail
          first | go_end0 | (refine bodyPost_ret (results_none rfl _ _ _) rfl ?_)
          refine ⟨rfl, ?_⟩
          have h9 := H6.out
          rw [HX.out, HY.out] at h9
          rw [HC.out]
          exact h9

end Go.Proofs.Ytaoamkkgiiiejaa
