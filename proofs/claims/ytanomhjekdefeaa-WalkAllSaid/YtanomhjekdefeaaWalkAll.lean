/- The walk over the law WalkAll. -/
import Derived.Test.YtanomhjekdefeaaWalkSeq
namespace Go.Proofs.Ytanomhjekdefeaa
open Go.RowKit
set_option linter.unusedVariables false
attribute [local go_sem ↓] Go.wp_at_zero Go.wp_at_succ

theorem same_row {B : Nat} {w : World} {v : Value} {n : Nat} {l l' : List E} (h : Rw B w 34 2 v n (ecells l)) (hn : n = l.length) (e : l = l') : Rw B w 34 2 v l'.length (ecells l') := by
  subst hn; subst e; exact h

def inF (L : List E) (r : Rg) (k : Nat) : List E := (L.take k).filter fun e => inR e r
theorem inF_succ (L : List E) (r : Rg) (k : Nat) (hk : k < L.length) : inF L r (k + 1) = if inR (ge L k) r = true then inF L r k ++ [ge L k] else inF L r k := by
  unfold inF
  rw [ge_take L k hk, List.filter_append]
  by_cases h : inR (ge L k) r = true
  · rw [if_pos h]; simp [h]
  · rw [if_neg h]; simp [h]
theorem inF_le (L : List E) (r : Rg) (k : Nat) : (inF L r k).length ≤ k := Nat.le_trans (List.length_filter_le _ _) (by rw [List.length_take]; omega)

set_option maxHeartbeats 4000000 in
set_option maxRecDepth 100000 in
theorem walkall_walk (A : Option Addr) (n cap : Nat) (xs : List A8) (a b : Int) (w : World) (hin : InA8 w A n cap xs) (ha : (Lit.int .u8 a).wf = true) (hb : (Lit.int .u8 b).wf = true) :
    Calls Try.prog 4 #[.slice A n cap, .int .u8 a, .int .u8 b] w fun e w' => e = .returned (.bool true) ∧ Below w.heap.size w w' := by
  have HIN := hid_mk hin
  have ha' := hid_mk (wf_u8 ha)
  have hb' := hid_mk (wf_u8 hb)
  clear hin ha hb
  go_enter Try.func4, Try.ntmps4
  go_wp2_with fail
  refine (wawake_any _).mono ?_
  rintro e w1 ⟨rfl, b1⟩
  have HIN1 := hid_mk (HIN.out.below b1)
  go_wp2_with fail
  refine (laid_any A n cap xs _ HIN1.out).mono ?_
  rintro e w2 ⟨p, u, L, F, rfl, T2, R2, -, hL, hE, b2⟩
  have B2 := bthen b1 b2
  have HT2 := hid_mk (T2.base b1.size)
  have HR2 := hid_mk (R2.base b1.size)
  have HS := hid_mk T2.srt
  have HE := hid_mk hE
  clear T2 R2 hE b1 b2 HIN1 HIN
  go_wp2_with fail
  refine (near_any a b false _ ha'.out hb'.out).mono ?_
  rintro e w3 ⟨rfl, b3⟩
  obtain ⟨rf, hrf⟩ : ∃ rf, rf = (nearR a b false).f := ⟨_, rfl⟩
  obtain ⟨rt, hrt⟩ : ∃ rt, rt = (nearR a b false).t := ⟨_, rfl⟩
  rw [← hrf, ← hrt, show (nearR a b false).dn = false from rfl]
  have HRF := hid_mk hrf
  have HRT := hid_mk hrt
  have b4 := bthen b3 (balloc (w := w3) (.cells #[.string rf, .string rt, .bool false] 29))
  have Y4 := hid_mk (heap_alloc_new w3 (.cells #[.string rf, .string rt, .bool false] 29))
  have HT4 := hid_mk (HT2.out.below b4)
  have HR4 := hid_mk (HR2.out.below b4)
  have B4 := bthen B2 b4
  obtain ⟨M, hM⟩ : ∃ M, M = w3.heap.size := ⟨_, rfl⟩
  rw [← hM] at Y4
  have HM := hid_mk hM
  clear HT2 HR2 B2 b3 b4 hrf hrt hM
  go_wp2_with fail
  rw [← HM.out]
  refine (near_any a b true _ ha'.out hb'.out).mono ?_
  rintro e w5 ⟨rfl, b5⟩
  rw [show (nearR a b true).f = rf from HRF.out.symm, show (nearR a b true).t = rt from HRT.out.symm, show (nearR a b true).dn = true from rfl]
  have b6 := bthen b5 (balloc (w := w5) (.cells #[.string rf, .string rt, .bool true] 29))
  have Z6 := heap_alloc_new w5 (.cells #[.string rf, .string rt, .bool true] 29)
  have Y6 := below_block b6 (lt_of_block Y4.out) Y4.out
  obtain ⟨w6, hw6⟩ : ∃ w6, w6 = w5.alloc (.cells #[.string rf, .string rt, .bool true] 29) := ⟨_, rfl⟩
  rw [← hw6] at b6 Z6 Y6
  have b7 := pw_below (n := 1) b6
  have y0 : w6.drew.cell? ⟨M, 0, none⟩ = some (.string rf) := (cell_of_row _ _ 0 _ _ _ Y6).trans rfl
  have y1 : w6.drew.cell? ⟨M, 1, none⟩ = some (.string rt) := (cell_of_row _ _ 1 _ _ _ Y6).trans rfl
  have y2 : w6.drew.cell? ⟨M, 2, none⟩ = some (.bool false) := (cell_of_row _ _ 2 _ _ _ Y6).trans rfl
  have z0 : w6.drew.cell? ⟨w5.heap.size, 0, none⟩ = some (.string rf) := (cell_of_row _ _ 0 _ _ _ Z6).trans rfl
  have z1 : w6.drew.cell? ⟨w5.heap.size, 1, none⟩ = some (.string rt) := (cell_of_row _ _ 1 _ _ _ Z6).trans rfl
  have z2 : w6.drew.cell? ⟨w5.heap.size, 2, none⟩ = some (.bool true) := (cell_of_row _ _ 2 _ _ _ Z6).trans rfl
  have HTD : Hid (Tree w.heap.size w6.drew p L F) := hid_mk (HT4.out.below b7)
  have HRD : Hid (Rw w.heap.size w6.drew 34 2 u L.length (ecells L)) := hid_mk (HR4.out.below b7)
  have BD : Below w.heap.size w w6.drew := bthen B4 b7
  have HYD := hid_mk Y6
  have HW6 := hid_mk hw6
  obtain ⟨M2, hM2⟩ : ∃ M2, M2 = w5.heap.size := ⟨_, rfl⟩
  rw [← hM2] at z0 z1 z2 Z6
  have HM2 := hid_mk hM2
  clear HT4 HR4 Y4 Y6 Z6 b5 b6 b7 B4 hw6 hM2
  go_wp2_with fail
  rw [← HW6.out, ← HM2.out]
  go_region_held3 (fun w' => w'.cell? ⟨M, 0, none⟩ = some (.string rf) ∧ w'.cell? ⟨M, 1, none⟩ = some (.string rt) ∧ w'.cell? ⟨M, 2, none⟩ = some (.bool false) ∧ w'.cell? ⟨M2, 0, none⟩ = some (.string rf) ∧ w'.cell? ⟨M2, 1, none⟩ = some (.string rt) ∧ w'.cell? ⟨M2, 2, none⟩ = some (.bool true))
    ((first | go_keep | exact ⟨J0, J1, J2, J3, J4, J5⟩ | exact ⟨K0, K1, K2, K3, K4, K5⟩))
    ((first
      | (go_at_call 12; refine (wnew_any p ⟨rf, rt, false⟩ _).mono ?_; rintro e w7 ⟨q, rfl, V7, hq7, b7⟩; have K0 := keep_cell b7 y0; have K1 := keep_cell b7 y1; have K2 := keep_cell b7 y2; have K3 := keep_cell b7 z0; have K4 := keep_cell b7 z1; have K5 := keep_cell b7 z2)
      | (go_at_call 12; refine (wnew_any p ⟨rf, rt, true⟩ _).mono ?_; rintro e w8 ⟨q2, rfl, W8, hq8, b8⟩; have J0 := keep_cell b8 K0; have J1 := keep_cell b8 K1; have J2 := keep_cell b8 K2; have J3 := keep_cell b8 K3; have J4 := keep_cell b8 K4; have J5 := keep_cell b8 K5)))
  have V8 := hid_mk ((Wt.fresh HTD.out b7 V7 hq7).below b8)
  have W8' := hid_mk (Wt.fresh (HTD.out.below b7) b8 W8 hq8)
  have HQ : Hid (q < q2) := hid_mk (by have := V7.lt; omega)
  have R8 := hid_mk ((HRD.out.below b7).below b8)
  have B8 := (BD.trans (b7.mono BD.size)).trans (b8.mono (BD.trans (b7.mono BD.size)).size)
  have HQ8 : Hid (q < w8.heap.size ∧ q2 < w8.heap.size) := hid_mk ⟨V8.out.wk.lt, W8'.out.wk.lt⟩
  obtain ⟨Au, cu, rfl, hcu, hmu, hA⟩ := rw_ents R8.out
  have HA := hid_mk hA
  have XN : Hid (Rw w8.heap.size w8 34 2 (.slice none 0 0) (inF L ⟨rf, rt, false⟩ 0).length (ecells (inF L ⟨rf, rt, false⟩ 0))) := hid_mk (Rw.nil _ _ _ _)
  have J0 := J0
  clear y0 y1 y2 z0 z1 z2 K0 K1 K2 K3 K4 K5 J3 J4 J5 b7 b8 V7 W8 hq7 hq8 HTD HRD BD HYD hA
  go_wp2_with fail
  go_loopw [13, 53] (fun o iv wr => ∃ k : Nat, iv = .int .i64 k ∧ k ≤ L.length ∧ Hid (Rw w8.heap.size wr 34 2 o (inF L ⟨rf, rt, false⟩ k).length (ecells (inF L ⟨rf, rt, false⟩ k))) ∧ Below w8.heap.size w8 wr) (fun _ iv _ => L.length - (intOf iv).toNat)
  case atStart => exact ⟨0, rfl, Nat.zero_le _, XN, Below.refl _ _⟩
  case round =>
    clear XN
    obtain ⟨k, rfl, hk, R, hb⟩ := hrel
    obtain ⟨O, hO⟩ : ∃ O, O = inF L ⟨rf, rt, false⟩ k := ⟨_, rfl⟩
    rw [← hO] at R
    have hOl := inF_le L ⟨rf, rt, false⟩ k
    rw [← hO] at hOl
    obtain ⟨n1, hn1⟩ : ∃ n1, n1 = O.length := ⟨_, rfl⟩
    rw [← hn1] at R hOl
    obtain ⟨Ao, co, rfl, _, _, _⟩ := R.out.shape
    have HO := hid_mk hO
    have HN1 := hid_mk hn1
    clear hO hn1
    by_cases hlt : k < L.length
    · obtain ⟨g, rfl, hg, hcs⟩ := HA.out (by omega)
      obtain ⟨c0, c1⟩ := hcs k hlt
      obtain ⟨x, hx⟩ : ∃ x, x = ge L k := ⟨_, rfl⟩
      have HSU := hid_mk (inF_succ L ⟨rf, rt, false⟩ k hlt)
      rw [← hx, ← HO.out] at HSU
      rw [← hx] at c0 c1
      have d0 := keep_cell hb c0
      have d1 := keep_cell hb c1
      have k0 : (0 : Int) ≤ (k : Int) := by omega
      have k1 : (k : Int) < (L.length : Int) := by omega
      have bz := balloc (w := wr) (.cells #[.string x.key, .int .i64 x.id] 34)
      have hbz := hb.trans (bz.mono hb.size)
      have r0 := keep_cell hbz J0
      have r1 := keep_cell hbz J1
      have r2 := keep_cell hbz J2
      have Y := heap_alloc_new wr (.cells #[.string x.key, .int .i64 x.id] 34)
      have x0 : (wr.alloc (.cells #[.string x.key, .int .i64 x.id] 34)).cell? ⟨wr.heap.size, 0, none⟩ = some (.string x.key) := (cell_of_row _ _ 0 _ _ _ Y).trans rfl
      have x1 : (wr.alloc (.cells #[.string x.key, .int .i64 x.id] 34)).cell? ⟨wr.heap.size, 1, none⟩ = some (.int .i64 x.id) := (cell_of_row _ _ 1 _ _ _ Y).trans rfl
      have RZ := hid_mk (R.out.below bz)
      clear hcs c0 c1 hx R Y
      go_wp2_with fail
      refine (lin_any x ⟨rf, rt, false⟩ _).mono ?_
      rintro e w9 ⟨rfl, b9⟩
      have x0' := keep_cell b9 x0
      have x1' := keep_cell b9 x1
      have R9 := hid_mk (RZ.out.below b9)
      have hb9 := hbz.trans (b9.mono hbz.size)
      clear x0 x1 r0 r1 r2 d0 d1 RZ hb hbz bz b9
      cases hin : inR x ⟨rf, rt, false⟩ with
      | false =>
        rw [if_neg (by rw [hin]; simp)] at HSU
        clear hin
        go_wp2_with fail
        exact ⟨⟨k + 1, by go_num, by omega, hid_mk (by rw [HSU.out, ← HN1.out]; exact R9.out), hb9⟩, by simp [intOf]; omega⟩
      | true =>
        rw [if_pos hin] at HSU
        clear hin
        obtain ⟨A3, c3, w10, hr, R10, m10⟩ := push_ent R9.out HN1.out hb9.size x (by omega) w9.heap.size rfl
        have hb10 := hb9.trans (m10.below (fun j hj => (R9.out.lt j hj).1) hb9.size)
        have HR10 := hid_mk R10
        clear R10 m10 R9
        go_wp2_with (at_builtin; refine Lib.wpList_append_run _ rfl _ _ 25 25 rfl _ _ rfl rfl _ _ hr ?_)
        exact ⟨⟨k + 1, by go_num, by omega, hid_mk (by rw [HSU.out, List.length_append, ← HN1.out]; exact HR10.out), hb10⟩, by simp [intOf]; omega⟩
    · obtain rfl : k = L.length := by omega
      go_wp2_with fail
      obtain ⟨C2, hC2⟩ : ∃ C2, C2 = wr.heap.size := ⟨_, rfl⟩
      obtain ⟨S, hS⟩ : ∃ S, S = partE L ⟨rf, rt, false⟩ := ⟨_, rfl⟩
      have hOS : O = S := by rw [HO.out, hS, part_up _ _ rfl]; unfold inF; rw [List.take_length]
      have hSr : partE L ⟨rf, rt, true⟩ = S.reverse := by rw [part_down _ _ rfl, hS, part_up _ _ rfl]; rfl
      subst hOS
      have HS1 : Hid (∀ k, nextE L ⟨rf, rt, false⟩ (mkAt O k) = fz O[k]? ∧ mkOf (mkAt O k) (nextE L ⟨rf, rt, false⟩ (mkAt O k)) = mkAt O (k + 1)) := hid_mk (by rw [hS]; exact walk_step HS.out HE.out.low _)
      have HS2 : Hid (∀ k, nextE L ⟨rf, rt, true⟩ (mkAt O.reverse k) = fz O.reverse[k]? ∧ mkOf (mkAt O.reverse k) (nextE L ⟨rf, rt, true⟩ (mkAt O.reverse k)) = mkAt O.reverse (k + 1)) := hid_mk (by rw [← hSr]; exact walk_step HS.out HE.out.low _)
      have hO60 : O.length ≤ 60 := by rw [← HN1.out]; omega
      have HV := hid_mk (V8.out.below hb)
      have HW := hid_mk (W8'.out.below hb)
      have hbw := B8.trans (hb.mono B8.size)
      have HQr : Hid (q < C2 ∧ q2 < C2) := hid_mk (by rw [hC2]; exact ⟨HV.out.wk.lt, HW.out.wk.lt⟩)
      have HI : Hid (∀ j, own (.slice Ao n1 co) j → w8.heap.size ≤ j ∧ j < C2) := hid_mk fun j hj => by rw [hC2]; exact R.out.lt j hj
      have HFQ : Hid (∀ j, F j → j < C2) := hid_mk fun j hj => by rw [hC2]; exact (HV.out.tree.foot j hj).2
      have e1 : Hid (Rw C2 wr 34 2 (.slice none 0 0) (O.take 0).length (ecells (O.take 0))) := hid_mk (Rw.nil _ _ _ _)
      have e2 : Hid (Rw C2 wr 34 2 (.slice none 0 0) (O.reverse.take 0).length (ecells (O.reverse.take 0).reverse)) := hid_mk (Rw.nil _ _ _ _)
      have e3 : Hid (Apart (.slice none 0 0) (own (.slice none 0 0))) := hid_mk fun j hj => by simp [Value.ownBlock] at hj
      have V0 : Hid (Wt w.heap.size wr p L F q ⟨rf, rt, false⟩ (mkAt O 0)) := HV
      have W0 : Hid (Wt w.heap.size wr p L F q2 ⟨rf, rt, true⟩ (mkAt O.reverse 0)) := HW
      have HC2 := hid_mk hC2
      have HCw : Hid (w.heap.size ≤ C2) := hid_mk (by rw [hC2]; exact hbw.size)
      clear hC2 hS hSr HV HW hb J0 J1 J2 V8 W8' R8 B8 HA HO
      go_loopw [14, 15, 65] (fun o1 o2 iv wx => ∃ k : Nat, iv = .int .i64 k ∧ k ≤ 70 ∧ Hid (Wt w.heap.size wx p L F q ⟨rf, rt, false⟩ (mkAt O k)) ∧ Hid (Wt w.heap.size wx p L F q2 ⟨rf, rt, true⟩ (mkAt O.reverse k)) ∧
        Hid (Rw C2 wx 34 2 o1 (O.take k).length (ecells (O.take k))) ∧ Hid (Rw C2 wx 34 2 o2 (O.reverse.take k).length (ecells (O.reverse.take k).reverse)) ∧ Hid (Apart o2 (own o1)) ∧
        Hid (Rw w8.heap.size wx 34 2 (.slice Ao n1 co) n1 (ecells O)) ∧ C2 ≤ wx.heap.size ∧ Below w.heap.size w wx) (fun _ _ iv _ => 70 - (intOf iv).toNat)
      case atStart => exact ⟨0, rfl, Nat.zero_le _, V0, W0, e1, e2, e3, R, HC2.out ▸ Nat.le_refl _, hbw⟩
      case round =>
        clear V0 W0 e1 e2 e3 R hbw
        obtain ⟨k, rfl, hk, HV, HW, R1, R2, AP, RI, hsx, hbx⟩ := hrel
        obtain ⟨O1, hO1⟩ : ∃ O1, O1 = O.take k := ⟨_, rfl⟩
        obtain ⟨O2, hO2⟩ : ∃ O2, O2 = (O.reverse.take k).reverse := ⟨_, rfl⟩
        obtain ⟨m1, hm1⟩ : ∃ m1, m1 = O1.length := ⟨_, rfl⟩
        obtain ⟨m2, hm2⟩ : ∃ m2, m2 = O2.length := ⟨_, rfl⟩
        have hm2' : (O.reverse.take k).length = m2 := by rw [hm2, hO2, List.length_reverse]
        rw [hm2', ← hO2] at R2
        rw [← hO1, ← hm1] at R1
        obtain ⟨A1, c1, rfl, _, _, _⟩ := R1.out.shape
        obtain ⟨A2, c2, rfl, _, _, _⟩ := R2.out.shape
        have HO1 := hid_mk hO1
        have HO2 := hid_mk hO2
        have HM1 := hid_mk hm1
        have HM2' := hid_mk hm2
        have hm1l : m1 ≤ 70 := by rw [hm1, hO1, List.length_take]; omega
        have hm2l : m2 ≤ 70 := by rw [hm2, hO2, List.length_reverse, List.length_take]; omega
        clear hO1 hO2 hm1 hm2 hm2'
        by_cases hlt : k < 70
        · have hk7 : (k : Int) < 70 := by omega
          have AQ1 : Hid (Apart (.slice A1 m1 c1) fun j => j = q) := hid_mk fun j hj e9 => by have h1 := (R1.out.lt j hj).1; have := HQr.out.1; omega
          have AQ2 : Hid (Apart (.slice A2 m2 c2) fun j => j = q) := hid_mk fun j hj e9 => by have h1 := (R2.out.lt j hj).1; have := HQr.out.1; omega
          have AQI : Hid (Apart (.slice Ao n1 co) fun j => j = q) := hid_mk fun j hj e9 => by have h1 := (HI.out j hj).1; have := HQ8.out.1; omega
          have BQ1 : Hid (Apart (.slice A1 m1 c1) fun j => j = q2) := hid_mk fun j hj e9 => by have h1 := (R1.out.lt j hj).1; have := HQr.out.2; omega
          have BQ2 : Hid (Apart (.slice A2 m2 c2) fun j => j = q2) := hid_mk fun j hj e9 => by have h1 := (R2.out.lt j hj).1; have := HQr.out.2; omega
          have BQI : Hid (Apart (.slice Ao n1 co) fun j => j = q2) := hid_mk fun j hj e9 => by have h1 := (HI.out j hj).1; have := HQ8.out.2; omega
          go_wp2_with fail
          refine (wnext_any w.heap.size p q L F ⟨rf, rt, false⟩ (mkAt O k) _ HV.out).mono ?_
          rintro e w4 ⟨rfl, V4, m4⟩
          rw [(HS1.out k).2] at V4
          rw [(HS1.out k).1]
          have hsm4 := m4.size
          have W4 := HW.out.stays m4 (fun j hj e9 => HV.out.apart (e9 ▸ hj)) (fun e9 => by have := HQ.out; omega)
          have R14 := m4.rw_ R1.out AQ1.out
          have R24 := m4.rw_ R2.out AQ2.out
          have RI4 := m4.rw_ RI.out AQI.out
          have hb4 := hbx.trans (HV.out.moved m4)
          by_cases hm : k < O.length
          · obtain ⟨x, hx⟩ : ∃ x, O[k]? = some x := ⟨_, List.getElem?_eq_getElem hm⟩
            obtain ⟨y, hy⟩ : ∃ y, O.reverse[k]? = some y := ⟨_, List.getElem?_eq_getElem (by rw [List.length_reverse]; exact hm)⟩
            have HT1 : Hid (O.take (k + 1) = O1 ++ [x]) := hid_mk (by rw [take_get, hx, HO1.out])
            have HT2 : Hid ((O.reverse.take (k + 1)).reverse = y :: O2) := hid_mk (by rw [take_get, hy, HO2.out]; simp)
            have HY := hid_mk hy
            rw [hx]
            have bz := balloc (w := w4) (.cells #[.string x.key, .int .i64 x.id] 34)
            obtain ⟨A3, c3, w5, hr, R15, m5⟩ := push_ent (R14.below bz) HM1.out (by simp; omega) x (by omega) (w4.heap.size + 1) (by simp)
            have HFO : ∀ j, F j → ¬ own (.slice A1 m1 c1) j := fun j hj h9 => by have h1 := (R1.out.lt j h9).1; have := HFQ.out j hj; omega
            have V5 := hid_mk ((V4.below bz).stays m5 HFO (fun h9 => by have h1 := (R1.out.lt _ h9).1; have := HQr.out.1; omega))
            have W5 := hid_mk ((W4.below bz).stays m5 HFO (fun h9 => by have h1 := (R1.out.lt _ h9).1; have := HQr.out.2; omega))
            have R25 := hid_mk (m5.rw_ (R24.below bz) AP.out)
            have RI5 := hid_mk (m5.rw_ (RI4.below bz) (fun j hj h9 => by have h1 := (R1.out.lt _ h9).1; have := (HI.out j hj).2; omega))
            have hb5 := (hb4.trans (bz.mono hb4.size)).trans (m5.below (fun j hj => by have h1 := (R1.out.lt _ hj).1; have := HCw.out; omega) (by have := hb4.size; simp; omega))
            have HR15 := hid_mk R15
            have hsm5 := m5.size
            have AP5 : Hid (Apart (.slice A2 m2 c2) (own (.slice A3 (m1 + 1) c3))) := hid_mk fun j hj h9 => by
              rcases m5.new _ h9 with h8 | h8
              · exact AP.out j hj h8
              · have := (R24.lt j hj).2; simp at h8; omega
            have CQ1 : Hid (Apart (.slice A3 (m1 + 1) c3) fun j => j = q2) := hid_mk fun j hj e9 => by have h1 := (HR15.out.lt j hj).1; have := HQr.out.2; omega
            have hs5 : C2 ≤ w5.heap.size := by simp at hsm5; omega
            clear V4 W4 R14 R24 RI4 hb4 R15 m5 m4 bz HV HW R1 R2 RI AP hx hy hm hbx HFO AQ1 AQ2 AQI BQ1 hsm4 hsm5
            go_wp2_with (at_builtin; refine Lib.wpList_append_run _ rfl _ _ 25 25 rfl _ _ rfl rfl _ _ hr ?_)
            refine (wnext_any w.heap.size p q2 L F ⟨rf, rt, true⟩ (mkAt O.reverse k) _ W5.out).mono ?_
            rintro e w6 ⟨rfl, W6, m6⟩
            rw [(HS2.out k).2] at W6
            rw [(HS2.out k).1, HY.out]
            have hsm6 := m6.size
            have V6 := V5.out.stays m6 (fun j hj e9 => W5.out.apart (e9 ▸ hj)) (fun e9 => by have := HQ.out; omega)
            have R16 := m6.rw_ HR15.out CQ1.out
            have R26 := m6.rw_ R25.out BQ2.out
            have RI6 := m6.rw_ RI5.out BQI.out
            have hb6 := hb5.trans (W5.out.moved m6)
            have bz := balloc (w := w6) (.cells #[.string y.key, .int .i64 y.id] 34)
            obtain ⟨A4, c4, w7, hr7, R27, b7⟩ := ahead_ent (R26.below bz) HM2'.out y (by omega) (w6.heap.size + 1) (by simp)
            have bb := bthen bz b7
            have V7 := hid_mk (V6.below bb)
            have W7 := hid_mk (W6.below bb)
            have R17 := hid_mk (R16.below bb)
            have RI7 := hid_mk (RI6.below bb)
            have hb7 := hb6.trans (bb.mono hb6.size)
            have AP7 : Hid (Apart (.slice A4 (1 + m2) c4) (own (.slice A3 (m1 + 1) c3))) := hid_mk fun j hj h9 => by
              have h1 := (R16.lt j h9).2
              have h2 := (R27.lt j hj).1
              simp at h2; omega
            have hs7 : C2 ≤ w7.heap.size := by have h1 := bb.size; omega
            have R27' := hid_mk (R27.base (B := C2) (by simp; omega))
            clear V6 W6 R16 R26 RI6 hb6 m6 bz b7 bb V5 W5 HR15 R25 RI5 hb5 AP5 CQ1 BQ2 BQI R27 hsm6
            go_wp2_with (at_builtin; refine Lib.wpList_append_run _ rfl _ _ 25 25 rfl _ _ rfl rfl _ _ hr7 ?_)
            exact ⟨⟨k + 1, by go_num, by omega, V7, W7, hid_mk (by rw [HT1.out, List.length_append, ← HM1.out]; exact R17.out), hid_mk (by rw [HT2.out, show (O.reverse.take (k + 1)).length = 1 + m2 by rw [← List.length_reverse, HT2.out, List.length_cons, ← HM2'.out]; omega]; exact R27'.out), AP7, RI7, hs7, hb7⟩, by simp [intOf]; omega⟩
          · have hx : O[k]? = none := List.getElem?_eq_none (by omega)
            have hy : O.reverse[k]? = none := List.getElem?_eq_none (by rw [List.length_reverse]; omega)
            have HT1 : Hid (O.take (k + 1) = O1) := hid_mk (by rw [take_get, hx, HO1.out])
            have HT2 : Hid ((O.reverse.take (k + 1)).reverse = O2) := hid_mk (by rw [take_get, hy, HO2.out])
            have HY := hid_mk hy
            rw [hx]
            have bz := balloc (w := w4) (.cells #[.string zE.key, .int .i64 zE.id] 34)
            have V5 := hid_mk (V4.below bz)
            have W5 := hid_mk (W4.below bz)
            have R15 := hid_mk (R14.below bz)
            have R25 := hid_mk (R24.below bz)
            have RI5 := hid_mk (RI4.below bz)
            have hb5 := hb4.trans (bz.mono hb4.size)
            clear V4 W4 R14 R24 RI4 hb4 m4 bz HV HW R1 R2 RI hx hy hm hbx AQ1 AQ2 AQI
            go_wp2_with fail
            refine (wnext_any w.heap.size p q2 L F ⟨rf, rt, true⟩ (mkAt O.reverse k) _ W5.out).mono ?_
            rintro e w6 ⟨rfl, W6, m6⟩
            rw [(HS2.out k).2] at W6
            rw [(HS2.out k).1, HY.out]
            have hsm6 := m6.size
            have V6 := V5.out.stays m6 (fun j hj e9 => W5.out.apart (e9 ▸ hj)) (fun e9 => by have := HQ.out; omega)
            have bz := balloc (w := w6) (.cells #[.string zE.key, .int .i64 zE.id] 34)
            have V7 := hid_mk (V6.below bz)
            have W7 := hid_mk (W6.below bz)
            have R17 := hid_mk ((m6.rw_ R15.out BQ1.out).below bz)
            have R27 := hid_mk ((m6.rw_ R25.out BQ2.out).below bz)
            have RI7 := hid_mk ((m6.rw_ RI5.out BQI.out).below bz)
            have hb6 := hb5.trans (W5.out.moved m6)
            have hb7 := hb6.trans (bz.mono hb6.size)
            have hs7 : C2 ≤ (w6.alloc (.cells #[.string zE.key, .int .i64 zE.id] 34)).heap.size := by simp at hsm6 ⊢; omega
            clear V6 W6 hb6 m6 bz V5 W5 R15 R25 RI5 hb5 BQ1 BQ2 BQI hsm6
            go_wp2_with fail
            exact ⟨⟨k + 1, by go_num, by omega, V7, W7, hid_mk (by rw [HT1.out, ← HM1.out]; exact R17.out), hid_mk (by rw [HT2.out, show (O.reverse.take (k + 1)).length = m2 by rw [← List.length_reverse, HT2.out, ← HM2'.out]]; exact R27.out), AP, RI7, hs7, hb7⟩, by simp [intOf]; omega⟩
        · obtain rfl : k = 70 := by omega
          have hO1 : O1 = O := by rw [HO1.out]; exact List.take_of_length_le (by omega)
          have hO2 : O2 = O := by rw [HO2.out, List.take_of_length_le (by rw [List.length_reverse]; omega), List.reverse_reverse]
          have RU := hid_mk (same_row R1.out HM1.out hO1)
          have RD := hid_mk (same_row R2.out HM2'.out hO2)
          have RS := hid_mk (same_row RI.out HN1.out rfl)
          clear R1 R2 RI HV HW hO1 hO2
          go_wp2_with fail
          refine (same_true O C2 w8.heap.size _ _ _ RU.out RS.out).mono ?_
          rintro e w4 ⟨rfl, b4⟩
          have RD4 := hid_mk (RD.out.below b4)
          have RS4 := hid_mk (RS.out.below b4)
          have hb4 := hbx.trans (b4.mono hbx.size)
          clear RU RD RS b4
          go_wp2_with fail
          refine (same_true O C2 w8.heap.size _ _ _ RD4.out RS4.out).mono ?_
          rintro e w5 ⟨rfl, b5⟩
          have hb5 := hb4.trans (b5.mono hb4.size)
          go_wp2_with fail
          go_ret
          exact ⟨rfl, hb5⟩

end Go.Proofs.Ytanomhjekdefeaa
