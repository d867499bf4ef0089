/- An entry moved to a node from the one left of it. -/
import Derived.Test.YtaoamkkgiiiejaaTreeF
import Derived.BigQuiet
import Derived.Deep.DeepCutAuto
namespace Go.Proofs.Ytaoamkkgiiiejaa
open Go.RowKit
set_option linter.unusedVariables false
attribute [local go_sem ↓] Go.wp_at_zero Go.wp_at_succ

theorem Nd.lfree {w : World} {ω : Ow} {a g n cap : Nat} {u : Value} {l : List E} {ps : List Nat} (h : Nd w ω a (.slice (some ⟨g, 0, none⟩) n cap) u l ps) (o : Nat) : w.frozen? ⟨g, o, none⟩ = false := by
  rcases h.lst.2 with ⟨h8, _⟩ | ⟨g8, c8, u8, h8, _, h9, _⟩
  · cases h8
  · injection h8 with h81
    injection h81 with h82
    injection h82 with h83
    subst h83
    simp [World.frozen?, h9]
theorem Nd.apart {w : World} {ω : Ow} {a q : Nat} {va ua vq uq : Value} {la lq : List E} {pa pq : List Nat} (ha : Nd w ω a va ua la pa) (hq : Nd w ω q vq uq lq pq) (hne : a ≠ q) :
    (∀ b, own vq b → b ≠ a ∧ ¬ own va b ∧ ¬ own ua b ∧ b ≠ q ∧ ¬ own uq b) ∧ (∀ b, own uq b → b ≠ a ∧ ¬ own va b ∧ ¬ own ua b ∧ b ≠ q ∧ ¬ own vq b) := by
  have key : ∀ b, ω b = some q → b ≠ a ∧ ¬ own va b ∧ ¬ own ua b := fun b hb => by
    refine ⟨fun e => ?_, fun h => ?_, fun h => ?_⟩
    · rw [e, ha.own0] at hb; injection hb with hb; exact hne hb
    · rw [ha.ownv b h] at hb; injection hb with hb; exact hne hb
    · rw [ha.ownu b h] at hb; injection hb with hb; exact hne hb
  have vu : ∀ b, own vq b → ¬ own uq b := fun b h h' => by
    obtain ⟨_, _, cs, fr, h1⟩ := hq.lst.hasT b h
    exact hq.kds.ne h1 (by decide) h'
  refine ⟨fun b hb => ?_, fun b hb => ?_⟩
  · obtain ⟨h1, h2, h3⟩ := key b (hq.ownv b hb)
    exact ⟨h1, h2, h3, fun e => hq.lst.ne hq.blk (by decide) (e ▸ hb), vu b hb⟩
  · obtain ⟨h1, h2, h3⟩ := key b (hq.ownu b hb)
    exact ⟨h1, h2, h3, fun e => hq.kds.ne hq.blk (by decide) (e ▸ hb), fun h => vu b h hb⟩

/-- What three nodes have become. -/
def Three (B a p q : Nat) (w : World) (ω : Ow) (la lp lq : List E) (pa pp pq : List Nat) (w' : World) : Prop :=
  ∃ ω', Stp (fun x => x = a ∨ x = p ∨ x = q) w ω w' ω' ∧ Okw B w' ω' ∧ Node w' ω' a la pa ∧ Node w' ω' p lp pp ∧ Node w' ω' q lq pq

theorem Three.seq {B a p q : Nat} {w w1 w2 : World} {ω ω1 : Ow} {la lp lq : List E} {pa pp pq : List Nat} (hok : Okw B w ω) (s : Stp (fun x => x = a ∨ x = p ∨ x = q) w ω w1 ω1) (h : Three B a p q w1 ω1 la lp lq pa pp pq w2) : Three B a p q w ω la lp lq pa pp pq w2 := by
  obtain ⟨ω2, s2, ok2, A2, P2, Q2⟩ := h
  exact ⟨ω2, s.trans s2 (fun _ h => .inl h) hok.own, ok2, A2, P2, Q2⟩
theorem Nd.toList {B : Nat} {w w1 w3 : World} {ω : Ow} {a : Nat} {v u v3 : Value} {l l' : List E} {ps : List Nat} (h : Nd w ω a v u l ps) (hok : Okw B w ω) (hB : B ≤ w.heap.size) (bb : Below w.heap.size w w1) (m3 : Mv (own v) (own v3) w1 w3)
    (hr : Rw 0 w3 36 2 v3 l'.length (ecells l')) :
    ∃ ω', Node (w3.setCell ⟨a, 0, none⟩ v3) ω' a l' ps ∧ Stp (· = a) w ω (w3.setCell ⟨a, 0, none⟩ v3) ω' ∧ Okw B (w3.setCell ⟨a, 0, none⟩ v3) ω' := by
  obtain ⟨ω', h1, h2, h3, _⟩ := (h.below hok bb).setList (hok.below bb) (Nat.le_trans hB bb.size) m3 hr
  exact ⟨ω', ⟨_, _, h1⟩, (Stp.of_below hok bb).trans h2 (fun _ h => .inl h) hok.own, h3⟩
theorem Nd.toKids {B : Nat} {w w1 w3 : World} {ω : Ow} {a : Nat} {v u u3 : Value} {l : List E} {ps ps' : List Nat} (h : Nd w ω a v u l ps) (hok : Okw B w ω) (hB : B ≤ w.heap.size) (bb : Below w.heap.size w w1) (m3 : Mv (own u) (own u3) w1 w3)
    (hr : Rw 0 w3 56 1 u3 ps'.length (pcells ps')) :
    ∃ ω', Node (w3.setCell ⟨a, 1, none⟩ u3) ω' a l ps' ∧ Stp (· = a) w ω (w3.setCell ⟨a, 1, none⟩ u3) ω' ∧ Okw B (w3.setCell ⟨a, 1, none⟩ u3) ω' := by
  obtain ⟨ω', h1, h2, h3, _⟩ := (h.below hok bb).setKids (hok.below bb) (Nat.le_trans hB bb.size) m3 hr
  exact ⟨ω', ⟨_, _, h1⟩, (Stp.of_below hok bb).trans h2 (fun _ h => .inl h) hok.own, h3⟩
theorem Three.a_ {B a p q : Nat} {w w2 : World} {ω ω2 : Ow} {la lp lq : List E} {pa pp pq : List Nat} (hap : a ≠ p) (haq : a ≠ q) (P : Node w ω p lp pp) (Q : Node w ω q lq pq) (s : Stp (· = a) w ω w2 ω2) (ok : Okw B w2 ω2) (A : Node w2 ω2 a la pa) : Three B a p q w ω la lp lq pa pp pq w2 :=
  ⟨ω2, s.wider fun _ h => .inl h, ok, A, P.kept s (Ne.symm hap), Q.kept s (Ne.symm haq)⟩
theorem Three.p_ {B a p q : Nat} {w w2 : World} {ω ω2 : Ow} {la lp lq : List E} {pa pp pq : List Nat} (hap : a ≠ p) (hpq : p ≠ q) (A : Node w ω a la pa) (Q : Node w ω q lq pq) (s : Stp (· = p) w ω w2 ω2) (ok : Okw B w2 ω2) (P : Node w2 ω2 p lp pp) : Three B a p q w ω la lp lq pa pp pq w2 :=
  ⟨ω2, s.wider fun _ h => .inr (.inl h), ok, A.kept s hap, P, Q.kept s (Ne.symm hpq)⟩
theorem Three.q_ {B a p q : Nat} {w w2 : World} {ω ω2 : Ow} {la lp lq : List E} {pa pp pq : List Nat} (haq : a ≠ q) (hpq : p ≠ q) (A : Node w ω a la pa) (P : Node w ω p lp pp) (s : Stp (· = q) w ω w2 ω2) (ok : Okw B w2 ω2) (Q : Node w2 ω2 q lq pq) : Three B a p q w ω la lp lq pa pp pq w2 :=
  ⟨ω2, s.wider fun _ h => .inr (.inr h), ok, A.kept s haq, P.kept s hpq, Q⟩
theorem Three.drew {B a p q : Nat} {w w2 : World} {ω : Ow} {la lp lq : List E} {pa pp pq : List Nat} (h : Three B a p q w ω la lp lq pa pp pq w2) : Three B a p q w ω la lp lq pa pp pq w2.drew := by
  obtain ⟨ω2, s2, ok2, A2, P2, Q2⟩ := h
  have b : Below w2.heap.size w2 w2.drew := pw_below (n := 1) (Below.refl _ _)
  exact ⟨ω2, s2.drew (n := 1), ok2.below b, A2.below ok2 b, P2.below ok2 b, Q2.below ok2 b⟩

set_option maxHeartbeats 4000000 in
set_option maxRecDepth 100000 in
theorem fromLeft_any (B a p q j K M : Nat) (ω : Ow) (l lp lq : List E) (ps pp pq : List Nat) (w : World) (ha : Node w ω a l ps) (hp : Node w ω p lp pp) (hq : Node w ω q lq pq) (hok : Okw B w ω) (hB : B ≤ w.heap.size)
    (hap : a ≠ p) (haq : a ≠ q) (hpq : p ≠ q) (hK : Hid (K = j + 1)) (hKl : K < ps.length) (hjp : ps[j]? = some p) (hKq : ps[K]? = some q) (hjl : j < l.length) (hM : Hid (lp.length = M + 1)) (hpp : pp.length = 0 ∨ pp.length = M + 2)
    (hl : l.length < 1000) (hpl : ps.length < 1000) (hlp : lp.length < 1000) (hlq : lq.length < 1000) (hpql : pq.length < 1000) :
    Calls Try.prog 50 #[.pointer (some ⟨a, 0, none⟩), .int .i64 (K : Int)] w fun e w' => e = .returned (.tuple #[]) ∧ Three B a p q w ω (l.set j (ge lp M)) (lp.take M) (ge l j :: lq) ps (pp.take (M + 1)) (pp.drop (M + 1) ++ pq) w' := by
  have HA0 := hid_mk ha
  have HP0 := hid_mk hp
  have HQ0 := hid_mk hq
  obtain ⟨va, ua, ha⟩ := ha
  obtain ⟨vp, up, hp⟩ := hp
  obtain ⟨vq, uq, hq⟩ := hq
  have hKj := hK.out
  obtain ⟨gk, kcap, rfl, hkc, hkm, hgk, hkcell⟩ := ha.kshape (by omega)
  obtain ⟨gl, lcap, rfl, hlc, hlm, hgl, hlcell⟩ := ha.lshape (by omega)
  obtain ⟨Aq, cq, rfl, hqc, hqm⟩ := hq.lany
  obtain ⟨a0, a1, af0, af1⟩ := ha.cells
  obtain ⟨q0, q1, qf0, qf1⟩ := hq.cells
  have kj := hkcell j (by omega)
  have kK := hkcell K hKl
  rw [List.getElem?_eq_getElem (by omega)] at hjp hKq
  injection hjp with hjp
  injection hKq with hKq
  rw [hjp] at kj
  rw [hKq] at kK
  obtain ⟨X, hX⟩ : ∃ X, X = ge l j := ⟨_, rfl⟩
  obtain ⟨x0, x1⟩ := hlcell j hjl
  rw [← hX] at x0 x1
  have HX := hid_mk hX
  have hw1 : IntKind.i64.wrap ((K : Int) - 1) = (j : Int) := by rw [IntKind.wrap_i64]; omega
  have j0 : (0 : Int) ≤ (j : Int) := by omega
  have j1 : (j : Int) < (ps.length : Int) := by omega
  have j2 : (j : Int) < (l.length : Int) := by omega
  have k0 : (0 : Int) ≤ (K : Int) := by omega
  have k1 : (K : Int) < (ps.length : Int) := by omega
  clear hkcell hlcell hX hjp hKq hKj
  go_enter Try.func50, Try.ntmps50
  go_wp2_with fail
  go_quiet (fail)
  go_wp2_with fail
  have bw : Below w.heap.size w (w.drewN nq) := pw_below (Below.refl _ _)
  obtain ⟨w1, hw1'⟩ : ∃ w1, w1 = w.drewN nq := ⟨_, rfl⟩
  rw [← hw1'] at bw ⊢
  have ok1 := hok.below bw
  have ha1 := ha.below hok bw
  have hp1 := hp.below hok bw
  have hq1 := hq.below hok bw
  have hs1 := bw.size
  have SW : Hid (Stp (fun x => x = a ∨ x = p ∨ x = q) w ω w1 ω) := hid_mk (Stp.of_below hok bw)
  have hB1 : B ≤ w1.heap.size := by omega
  have HOK1 := hid_mk ok1
  have HP1 := hid_mk (HP0.out.below hok bw)
  have HA1 := hid_mk ha1
  go_cut [] (fun wx => Three B a p q w ω l lp (X :: lq) ps pp pq wx)
  case first =>
    obtain ⟨a0', a1', af0', af1'⟩ := ha1.cells
    obtain ⟨q0', q1', qf0', qf1'⟩ := hq1.cells
    have x0' := keep_cell bw x0
    have x1' := keep_cell bw x1
    have hql : ∀ b, own (.slice Aq lq.length cq) b → b < w1.heap.size ∧ b ≠ q := fun b hb => ⟨(hq1.lst.lt b hb).2, fun e => hq1.lst.ne hq1.blk (by decide) (e ▸ hb)⟩
    have bb : Below w1.heap.size w1 (w1.alloc (.cells #[.string X.key, .int .i64 X.id] 36)).drew := pw_below (n := 1) (balloc _)
    have HROW := hid_mk (hq1.lst.below bb)
    have HVB : Hid ((w1.alloc (.cells #[.string X.key, .int .i64 X.id] 36)).drew.heap[w1.heap.size]? = some (.cells #[.string X.key, .int .i64 X.id] 36 (0, 0))) := hid_mk (heap_alloc_new w1 _)
    have hnb : (Value.slice Aq lq.length cq).ownBlock ≠ some w1.heap.size := fun e => by have := (hql _ e).1; omega
    have m0 := World.new_ne w1 ⟨q, 0, none⟩ q0'
    have hqlt := hq1.lt
    clear hw1' a0 a1 af0 af1 q0 q1 qf0 qf1 x0 x1 kj kK
    go_region_with
      ((go_at_call 32; refine (insertE_any 0 _ lq.length 0 w1.heap.size _ rfl (ecells lq) #[.string X.key, .int .i64 X.id] _ HROW.out (ecells_one _) (by omega) (by omega) (Nat.zero_le _) HVB.out rfl (by intro x hx; simp at hx; rcases hx with rfl | rfl <;> rfl) hnb _ (ins_ecells lq 0 X)).mono ?_; rintro e w3 ⟨v3, rfl, hv3, m3⟩; obtain ⟨A3, cap3, rfl, _, _, _⟩ := hv3.shape; have C3 := m3.cell (keep_cell bb q0') (fun h9 => (hql _ h9).2 rfl); have F3 := (m3.frozen (a := ⟨q, 0, none⟩) (by show q < (w1.alloc _).heap.size; simp; omega) (fun h9 => (hql _ h9).2 rfl)).trans (((bcell bb).2 q 0 hqlt).trans qf0')))
    all_goals
      have row3 : Rw 0 w3 36 2 (.slice A3 (lq.length + 1) cap3) (X :: lq).length (ecells (X :: lq)) := hv3
      obtain ⟨ω3, hq3, s3, ok3⟩ := hq1.toList ok1 hB1 bb m3 row3
      have HR := hid_mk (Three.q_ haq hpq ⟨_, _, HA1.out⟩ HP1.out s3 ok3 hq3)
      clear s3 ok3 hq3 row3 hv3 m3
      go_wp2_with fail
      go_meet
      case rel => exact HR.out.seq hok SW.out
  case rest =>
    clear hw1' a0 a1 af0 af1 q0 q1 qf0 qf1 x0 x1 kj kK ha1 hp1 hq1 HA1 HP1 HOK1 SW ok1 ha hp hq HA0 HP0 HQ0 bw hs1 hB1 hlc hlm hqc hqm hgl
    obtain ⟨ω2, S2, ok2, A2, P2, Q2⟩ := hcut
    have HS2 := hid_mk S2
    have HA2 := hid_mk A2
    have HP2 := hid_mk P2
    have HQ2 := hid_mk Q2
    obtain ⟨va2, ua2, a2⟩ := A2
    obtain ⟨vp2, up2, p2⟩ := P2
    obtain ⟨gl2, lcap2, rfl, hlc, hlm, hgl, hlcell⟩ := a2.lshape (by omega)
    obtain ⟨gp, pcap, rfl, hpc, hpm, hgp, hpcell⟩ := p2.lshape (by have := hM.out; omega)
    obtain ⟨a0, a1, af0, af1⟩ := a2.cells
    obtain ⟨p0, p1, pf0, pf1⟩ := p2.cells
    obtain ⟨z0, z1⟩ := hlcell j hjl
    obtain ⟨y0, y1⟩ := hpcell M (by have := hM.out; omega)
    obtain ⟨Y, hY⟩ : ∃ Y, Y = ge lp M := ⟨_, rfl⟩
    rw [← hY] at y0 y1
    have HY := hid_mk hY
    have hwM : IntKind.i64.wrap ((lp.length : Int) - 1) = (M : Int) := by have := hM.out; rw [IntKind.wrap_i64]; omega
    have M0 : (0 : Int) ≤ (M : Int) := by omega
    have M1 : (M : Int) < (lp.length : Int) := by have := hM.out; omega
    have zf0 := a2.lfree (j * 2)
    have zf1 := a2.lfree (j * 2 + 1)
    have HSE := hid_mk (a2.setEnt ok2 hjl Y)
    clear hlcell hpcell hY a2 p2 S2 Q2
    go_wp2_with fail
    go_cut [] (fun wx => Three B a p q w ω (l.set j Y) lp (X :: lq) ps pp pq wx)
    case first =>
      go_region
      all_goals
        have HR := hid_mk ((Three.a_ hap haq HP2.out HQ2.out HSE.out.2.1 HSE.out.2.2 ⟨_, _, HSE.out.1⟩).drew.seq hok HS2.out)
        go_wp2_with fail
        go_meet
        case rel => exact HR.out
    case rest =>
      clear HSE zf0 zf1 z0 z1 y0 y1 a0 a1 af0 af1 p0 p1 pf0 pf1 hlc hlm hgl hpc hpm hgp HA2 HP2 HQ2 HS2 ok2
      obtain ⟨ω3, S3, ok3, A3, P3, Q3⟩ := hcut
      have HS3 := hid_mk S3
      obtain ⟨vp3, up3, p3⟩ := P3
      obtain ⟨gp3, pcap3, rfl, hpc, hpm, hgp, hpcell⟩ := p3.lshape (by have := hM.out; omega)
      obtain ⟨U, ucap, rfl, huc, hum⟩ := p3.kany
      obtain ⟨p0, p1, pf0, pf1⟩ := p3.cells
      have hMc : (M : Int) ≤ (pcap3 : Int) := by omega
      have hB3 : B ≤ wc.heap.size := Nat.le_trans hB S3.size
      have rowT : Rw 0 wc 36 2 (.slice (some ⟨gp3, 0, none⟩) M pcap3) (lp.take M).length (ecells (lp.take M)) := by
        have hml : M ≤ lp.length := by have := hM.out; omega
        rw [← ecells_take, List.length_take, Nat.min_eq_left hml]
        exact p3.lst.prefix_ M pcap3 hml (by omega) (Nat.le_refl _)
      obtain ⟨ω4, P4, s4, ok4⟩ := p3.toList ok3 hB3 (Below.refl _ _) (v3 := .slice (some ⟨gp3, 0, none⟩) M pcap3) ⟨rfl, rfl, rfl, Nat.le_refl _, fun _ _ _ => rfl, fun k hk => .inl hk⟩ rowT
      have H4 := hid_mk ((Three.p_ hap hpq A3 Q3 s4 ok4 P4).seq hok S3)
      have c4 : (wc.setCell ⟨p, 0, none⟩ (.slice (some ⟨gp3, 0, none⟩) M pcap3)).cell? ⟨p, 1, none⟩ = some (.slice U pp.length ucap) := by go_simp
      clear hpcell rowT s4 ok4 P4 A3 Q3 S3 p3
      go_wp2_with fail
      refine (leaf_any p pp.length ucap U _ c4).mono ?_
      rintro e w5 ⟨rfl, rfl⟩
      rcases hpp with hpp | hpp
      · have hps : pp = [] := List.eq_nil_of_length_eq_zero hpp
        have hpn : pp.length = 0 := hpp
        go_wp2_with fail
        first | go_end0 | (refine bodyPost_ret (results_none rfl _ _ _) rfl ?_)
        refine ⟨rfl, ?_⟩
        have h9 := H4.out
        rw [HX.out, HY.out, hps] at h9
        rw [hps]
        exact h9
      · have hpn : ¬ pp.length = 0 := by omega
        clear c4 p0 p1 pf0 pf1 hpc hpm hgp hMc hB3
        have HPP := hid_mk hpp
        go_wp2_with fail
        obtain ⟨W5, hW5⟩ : ∃ W5, W5 = wc.setCell ⟨p, 0, none⟩ (.slice (some ⟨gp3, 0, none⟩) M pcap3) := ⟨_, rfl⟩
        rw [← hW5] at H4 ⊢
        clear hW5
        obtain ⟨ω4, S4, ok4, A4, P4, Q4⟩ := H4.out
        have HS4 := hid_mk S4
        have HA4 := hid_mk A4
        have HP4 := hid_mk P4
        have hB4 : B ≤ W5.heap.size := Nat.le_trans hB S4.size
        obtain ⟨vq4, uq4, q4⟩ := Q4
        obtain ⟨vp4, up4, p4⟩ := P4
        obtain ⟨Uq, uqcap, rfl, huqc, huqm⟩ := q4.kany
        obtain ⟨gkp, pkcap, rfl, hpkc, hpkm, hgkp, hpkcell⟩ := p4.kshape (by omega)
        obtain ⟨C, hC⟩ : ∃ C, C = pp[M + 1]'(by omega) := ⟨_, rfl⟩
        have kc := hpkcell (M + 1) (by omega)
        rw [← hC] at kc
        have HC : Hid (pp.drop (M + 1) = [C]) := hid_mk (by rw [List.drop_eq_getElem_cons (by omega), ← hC, List.drop_of_length_le (by omega)])
        have hwM1 : IntKind.i64.wrap ((M : Int) + 1) = (M : Int) + 1 := by rw [IntKind.wrap_i64]; omega
        have N0 : (0 : Int) ≤ (M : Int) + 1 := by omega
        have N1 : (M : Int) + 1 < (pp.length : Int) := by omega
        have N2 : ((M : Int) + 1).toNat = M + 1 := by omega
        obtain ⟨p0, p1, pf0, pf1⟩ := p4.cells
        obtain ⟨q0, q1, qf0, qf1⟩ := q4.cells
        have hqlt := q4.lt
        have hql : ∀ b, own (.slice Uq pq.length uqcap) b → b < W5.heap.size ∧ b ≠ q := fun b hb => ⟨(q4.kds.lt b hb).2, fun e => q4.kds.ne q4.blk (by decide) (e ▸ hb)⟩
        have bb : Below W5.heap.size W5 (W5.alloc (.cells #[.pointer (some ⟨C, 0, none⟩)] 56)).drew := pw_below (n := 1) (balloc _)
        have HROW := hid_mk (q4.kds.below bb)
        have HVB : Hid ((W5.alloc (.cells #[.pointer (some ⟨C, 0, none⟩)] 56)).drew.heap[W5.heap.size]? = some (.cells #[.pointer (some ⟨C, 0, none⟩)] 56 (0, 0))) := hid_mk (heap_alloc_new W5 _)
        have hnb : (Value.slice Uq pq.length uqcap).ownBlock ≠ some W5.heap.size := fun e => by have := (hql _ e).1; omega
        have m0 := World.new_ne W5 ⟨q, 1, none⟩ q1
        have HQ4 := hid_mk q4
        clear hpp hpkcell hC S4 A4 q4 p4
        go_cut [] (fun wx => Three B a p q w ω (l.set j Y) (lp.take M) (X :: lq) ps pp (C :: pq) wx)
        case first =>
          go_region_with
            ((go_at_call 34; refine (insertN_any 0 _ pq.length 0 W5.heap.size _ rfl (pcells pq) #[.pointer (some ⟨C, 0, none⟩)] _ HROW.out (pcells_one _) (by omega) (by omega) (Nat.zero_le _) HVB.out rfl (by intro x hx; simp at hx; subst hx; rfl) hnb _ (ins_pcells pq 0 C)).mono ?_; rintro e w3 ⟨v3, rfl, hv3, m3⟩; obtain ⟨A3, cap3, rfl, _, _, _⟩ := hv3.shape; have C3 := m3.cell (keep_cell bb q1) (fun h9 => (hql _ h9).2 rfl); have F3 := (m3.frozen (a := ⟨q, 1, none⟩) (by show q < (W5.alloc _).heap.size; simp; omega) (fun h9 => (hql _ h9).2 rfl)).trans (((bcell bb).2 q 1 hqlt).trans qf1)))
          all_goals
            have row3 : Rw 0 w3 56 1 (.slice A3 (pq.length + 1) cap3) (C :: pq).length (pcells (C :: pq)) := hv3
            obtain ⟨ω5, hq5, s5, ok5⟩ := HQ4.out.toKids ok4 hB4 bb m3 row3
            have HR := hid_mk ((Three.q_ haq hpq HA4.out HP4.out s5 ok5 hq5).seq hok HS4.out)
            clear s5 ok5 hq5 row3 hv3 m3
            go_wp2_with fail
            go_meet
            case rel => exact HR.out
        case rest =>
          clear HROW HVB hnb hql bb m0 q0 q1 qf0 qf1 p0 p1 pf0 pf1 kc HQ4 HA4 HP4 HS4 ok4 hB4 huqc huqm hpkc hpkm hgkp hqlt
          obtain ⟨ω5, S5, ok5, A5, P5, Q5⟩ := hcut
          have hB5 : B ≤ wc.heap.size := Nat.le_trans hB S5.size
          obtain ⟨vp5, up5, p5⟩ := P5
          obtain ⟨gkp, pkcap, rfl, hpkc, hpkm, hgkp, _⟩ := p5.kshape (by have := HPP.out; omega)
          obtain ⟨p0, p1, pf0, pf1⟩ := p5.cells
          have hN3 : (M : Int) + 1 ≤ (pkcap : Int) := by omega
          have hml : M + 1 ≤ pp.length := by omega
          have rowT : Rw 0 wc 56 1 (.slice (some ⟨gkp, 0, none⟩) (M + 1) pkcap) (pp.take (M + 1)).length (pcells (pp.take (M + 1))) := by
            rw [← pcells_take, List.length_take, Nat.min_eq_left hml]
            exact p5.kds.prefix_ (M + 1) pkcap hml (by omega) (Nat.le_refl _)
          obtain ⟨ω6, P6, s6, ok6⟩ := p5.toKids ok5 hB5 (Below.refl _ _) (u3 := .slice (some ⟨gkp, 0, none⟩) (M + 1) pkcap) ⟨rfl, rfl, rfl, Nat.le_refl _, fun _ _ _ => rfl, fun k hk => .inl hk⟩ rowT
          have H6 := hid_mk ((Three.p_ hap hpq A5 Q5 s6 ok6 P6).seq hok S5)
          clear rowT s6 ok6 P6 A5 Q5 S5 p5 hml
          go_wp2_with fail
          first | go_end0 | (refine bodyPost_ret (results_none rfl _ _ _) rfl ?_)
          refine ⟨rfl, ?_⟩
          have h9 := H6.out
          rw [HX.out, HY.out] at h9
          rw [HC.out]
          exact h9

end Go.Proofs.Ytaoamkkgiiiejaa
