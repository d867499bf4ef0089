/- The walk over the law WalkResumes. -/
import Derived.Test.YtanomhjekdefeaaWalkI
namespace Go.Proofs.Ytanomhjekdefeaa
open Go.RowKit
set_option linter.unusedVariables false
attribute [local go_sem ↓] Go.wp_at_zero Go.wp_at_succ

theorem norm_mk (m : Mk) (x : E × Bool) (h : m.norm = m) : (mkOf m x).norm = mkOf m x := by
  unfold mkOf
  split
  · rfl
  · exact h
theorem Wt.other {B : Nat} {w w' : World} {tp : Nat} {L : List E} {F G G' : Nat → Prop} {p : Nat} {r : Rg} {m : Mk} (H : Wt B w tp L F p r m) (h : Mv G G' w w') (hF : ∀ k, F k → ¬ G k) (hp : ¬ G p) : Wt B w' tp L F p r m :=
  ⟨H.tree.other h hF, h.at_ H.wk hp, H.base, H.apart⟩

set_option maxHeartbeats 4000000 in
set_option maxRecDepth 100000 in
theorem walkresumes_walk (A : Option Addr) (n cap : Nat) (xs : List A8) (a b : Int) (dn : Bool) (c : Int) (w : World) (hin : InA8 w A n cap xs) (ha : (Lit.int .u8 a).wf = true) (hb : (Lit.int .u8 b).wf = true) (hc : (Lit.int .u8 c).wf = true) :
    Calls Try.prog 7 #[.slice A n cap, .int .u8 a, .int .u8 b, .bool dn, .int .u8 c] w fun e w' => e = .returned (.bool true) ∧ Below w.heap.size w w' := by
  have HIN := hid_mk hin
  have ha' := hid_mk (wf_u8 ha)
  have hb' := hid_mk (wf_u8 hb)
  have hc' := wf_u8 hc
  have ht : c.tmod 40 = c % 40 := Int.tmod_eq_emod_of_nonneg hc'.1
  obtain ⟨N, hN⟩ : ∃ N : Nat, c.tmod 40 = (N : Int) := ⟨(c % 40).toNat, by rw [ht]; have := Int.emod_nonneg c (b := 40) (by omega); omega⟩
  have hN40 : N < 40 := by have := Int.emod_lt_of_pos c (b := 40) (by omega); omega
  clear ht
  clear hin ha hb hc hc'
  go_enter Try.func7, Try.ntmps7
  go_wp2_with fail
  refine (wawake_any _).mono ?_
  rintro e w1 ⟨rfl, b1⟩
  have HIN1 := hid_mk (HIN.out.below b1)
  go_wp2_with fail
  refine (laid_any A n cap xs _ HIN1.out).mono ?_
  rintro e w2 ⟨p, u, L, F, rfl, T2, R2, -, hL, hE, b2⟩
  have B2 := bthen b1 b2
  have HT2 := hid_mk (T2.base b1.size)
  clear T2 R2 hE b1 b2 HIN1 HIN hL
  go_wp2_with fail
  refine (near_any a b dn _ ha'.out hb'.out).mono ?_
  rintro e w3 ⟨rfl, b3⟩
  obtain ⟨r, hr⟩ : ∃ r, r = nearR a b dn := ⟨_, rfl⟩
  rw [← hr]
  obtain ⟨rf, rt, rd⟩ := r
  have b4 := bthen b3 (balloc (w := w3) (.cells #[.string rf, .string rt, .bool rd] 29))
  have Y4 := hid_mk (heap_alloc_new w3 (.cells #[.string rf, .string rt, .bool rd] 29))
  have HT4 := hid_mk (HT2.out.below b4)
  have B4 := bthen B2 b4
  clear HT2 B2 b3 b4 hr
  go_wp2_with fail
  refine (wnew_any p ⟨rf, rt, rd⟩ _).mono ?_
  rintro e w5 ⟨q, rfl, W5, hq, b5⟩
  have HW5 := hid_mk (Wt.fresh HT4.out b5 W5 hq)
  have Y5 := hid_mk (below_block b5 (by simp) Y4.out)
  have HQ : Hid (w3.heap.size ≠ q) := hid_mk (by have h9 := hq; simp at h9; omega)
  have B5 := bthen B4 b5
  obtain ⟨M, hM⟩ : ∃ M, M = w3.heap.size := ⟨_, rfl⟩
  rw [← hM] at Y5 HQ
  have HM := hid_mk hM
  have HN0 : Hid (zM.norm = zM) := hid_mk rfl
  clear W5 hq b5 HT4 Y4 B4 hM
  go_wp2_with fail
  rw [← HM.out]
  go_loopw [42] (fun iv wr => ∃ (k : Nat) (m : Mk), iv = .int .u8 k ∧ k ≤ N ∧ Hid (Wt w.heap.size wr p L F q ⟨rf, rt, rd⟩ m) ∧ Hid (m.norm = m) ∧ Hid (wr.heap[M]? = some (.cells #[.string rf, .string rt, .bool rd] 29 (0, 0))) ∧ Below w.heap.size w wr) (fun iv _ => N - (intOf iv).toNat)
  case atStart => exact ⟨0, zM, rfl, Nat.zero_le _, HW5, HN0, Y5, B5⟩
  case round =>
    clear HW5 HN0 Y5 B5
    obtain ⟨k, m, rfl, hk, HW, HNO, Y, hbr⟩ := hrel
    by_cases hlt : k < N
    · have hw1 : IntKind.u8.wrap ((k : Int) + 1) = (k : Int) + 1 := by rw [IntKind.wrap_u8]; omega
      have hkN : (k : Int) < (N : Int) := by omega
      go_wp2_with fail
      refine (wnext_any w.heap.size p q L F ⟨rf, rt, rd⟩ m _ HW.out).mono ?_
      rintro e w6 ⟨rfl, W6, m6⟩
      have HW6 := hid_mk W6
      have HN6 := hid_mk (norm_mk m (nextE L ⟨rf, rt, rd⟩ m) HNO.out)
      have Y6 := hid_mk (m6.at_ Y.out HQ.out)
      have hb6 := hbr.trans (HW.out.moved m6)
      clear W6 m6 HW Y hbr
      go_wp2_with fail
      exact ⟨⟨k + 1, _, by go_num, by omega, HW6, HN6, Y6, hb6⟩, by simp [intOf]; omega⟩
    · obtain rfl : k = N := by omega
      have y0 : wr.drew.cell? ⟨M, 0, none⟩ = some (.string rf) := (cell_of_row wr _ 0 _ _ _ Y.out).trans rfl
      have y1 : wr.drew.cell? ⟨M, 1, none⟩ = some (.string rt) := (cell_of_row wr _ 1 _ _ _ Y.out).trans rfl
      have y2 : wr.drew.cell? ⟨M, 2, none⟩ = some (.bool rd) := (cell_of_row wr _ 2 _ _ _ Y.out).trans rfl
      have bd : Below wr.heap.size wr wr.drew := pw_below (n := 1) (Below.refl _ _)
      have HWD := hid_mk (HW.out.below bd)
      have hbD := hbr.trans (bd.mono hbr.size)
      clear Y HW hbr bd hlt hN
      go_wp2_with fail
      go_region_held3 (fun w' => w'.cell? ⟨M, 0, none⟩ = some (.string rf) ∧ w'.cell? ⟨M, 1, none⟩ = some (.string rt) ∧ w'.cell? ⟨M, 2, none⟩ = some (.bool rd))
        ((first | go_keep | exact ⟨J0, J1, J2⟩ | exact ⟨K0, K1, K2⟩))
        ((first
          | (go_at_call 19; refine (mark_any q p ⟨rf, rt, rd⟩ m _ HWD.out.wk).mono ?_; rintro e w6 ⟨rfl, b6⟩; have HW6 := hid_mk (HWD.out.below b6); have hb6 := hbD.trans (b6.mono hbD.size); have K0 := keep_cell b6 y0; have K1 := keep_cell b6 y1; have K2 := keep_cell b6 y2)
          | (go_at_call 23; refine (resume_any p ⟨rf, rt, rd⟩ m _).mono ?_; rintro e w7 ⟨q2, rfl, W7, hq7, b7⟩; have J0 := keep_cell b7 K0; have J1 := keep_cell b7 K1; have J2 := keep_cell b7 K2)))
      rw [HNO.out] at W7
      have HV := hid_mk (Wt.fresh HW6.out.tree b7 W7 hq7)
      have HW7 := hid_mk (HW6.out.below b7)
      have hb7 := hb6.trans (b7.mono hb6.size)
      have HNQ : Hid (q2 ≠ q) := hid_mk fun e9 => by have := HW6.out.wk.lt; omega
      clear J0 J1 J2 K0 K1 K2 W7 hq7 b7 b6 HW6 hb6 HWD hbD y0 y1 y2
      go_wp2_with fail
      refine (mark_any q2 p ⟨rf, rt, rd⟩ m _ HV.out.wk).mono ?_
      rintro e w8 ⟨rfl, b8⟩
      have HV8 := hid_mk (HV.out.below b8)
      have HW8 := hid_mk (HW7.out.below b8)
      have hb8 := hb7.trans (b8.mono hb7.size)
      clear HV HW7 b8 hb7
      go_wp2_with fail
      refine (mark_any q p ⟨rf, rt, rd⟩ m _ HW8.out.wk).mono ?_
      rintro e w9 ⟨rfl, b9⟩
      have HV9 := hid_mk (HV8.out.below b9)
      have HW9 := hid_mk (HW8.out.below b9)
      have hb9 := hb8.trans (b9.mono hb8.size)
      clear HV8 HW8 b9 hb8
      go_wp2_with fail
      go_loopw [61] (fun iv wy => ∃ (j : Nat) (m : Mk), iv = .int .i64 j ∧ j ≤ 70 ∧ Hid (Wt w.heap.size wy p L F q ⟨rf, rt, rd⟩ m) ∧ Hid (Wt w.heap.size wy p L F q2 ⟨rf, rt, rd⟩ m) ∧ Below w.heap.size w wy) (fun iv _ => 70 - (intOf iv).toNat)
      case atStart => exact ⟨0, m, rfl, Nat.zero_le _, HW9, HV9, hb9⟩
      case round =>
        clear HV9 HW9 hb9
        obtain ⟨j, m, rfl, hj, HW, HV, hby⟩ := hrel
        by_cases hlt : j < 70
        · have hj7 : (j : Int) < 70 := by omega
          go_wp2_with fail
          refine (wnext_any w.heap.size p q2 L F ⟨rf, rt, rd⟩ m _ HV.out).mono ?_
          rintro e wa ⟨rfl, Wa, ma⟩
          obtain ⟨x, hx⟩ : ∃ x, x = nextE L ⟨rf, rt, rd⟩ m := ⟨_, rfl⟩
          rw [← hx] at Wa ⊢
          have HXX := hid_mk hx
          have Va := HW.out.other ma (fun k hk e => HV.out.apart (e ▸ hk)) (fun e => HNQ.out e.symm)
          have hba := hby.trans (HV.out.moved ma)
          have bz := balloc (w := wa) (.cells #[.string x.1.key, .int .i64 x.1.id] 34)
          have WB := hid_mk (Wa.below bz)
          have VB := hid_mk (Va.below bz)
          have YB := hid_mk (heap_alloc_new wa (.cells #[.string x.1.key, .int .i64 x.1.id] 34))
          have hbb := hba.trans (bz.mono hba.size)
          have HQA : Hid (wa.heap.size ≠ q) := hid_mk fun e9 => by have := Va.wk.lt; omega
          clear hx Wa Va ma hba bz HW HV hby
          go_wp2_with fail
          refine (wnext_any w.heap.size p q L F ⟨rf, rt, rd⟩ m _ VB.out).mono ?_
          rintro e wb ⟨rfl, Wb, mb⟩
          rw [← HXX.out] at Wb ⊢
          have Vb := WB.out.other mb (fun k hk e => VB.out.apart (e ▸ hk)) (fun e => HNQ.out e)
          have hbc := hbb.trans (VB.out.moved mb)
          have Yb := mb.at_ YB.out HQA.out
          have bz := balloc (w := wb) (.cells #[.string x.1.key, .int .i64 x.1.id] 34)
          have WC := hid_mk (Wb.below bz)
          have VC := hid_mk (Vb.below bz)
          have hbd := hbc.trans (bz.mono hbc.size)
          have z0 : wb.cell? ⟨wa.heap.size, 0, none⟩ = some (.string x.1.key) := (cell_of_row wb _ 0 _ _ _ Yb).trans rfl
          have z1 : wb.cell? ⟨wa.heap.size, 1, none⟩ = some (.int .i64 x.1.id) := (cell_of_row wb _ 1 _ _ _ Yb).trans rfl
          have z0' := keep_cell bz z0
          have z1' := keep_cell bz z1
          clear Wb Vb mb hbc Yb bz WB VB YB hbb z0 z1
          go_wp2_with fail
          exact ⟨⟨j + 1, _, by go_num, by omega, WC, VC, hbd⟩, by simp [intOf]; omega⟩
        · obtain rfl : j = 70 := by omega
          go_wp2_with fail
          go_ret
          exact ⟨rfl, hby⟩

end Go.Proofs.Ytanomhjekdefeaa
