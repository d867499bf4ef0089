/- The walk over the law WalkParts. -/
import Derived.Test.YtanomhjekdefeaaWalkSeq
import Derived.BigRegion
namespace Go.Proofs.Ytanomhjekdefeaa
open Go.RowKit
set_option linter.unusedVariables false
attribute [local go_sem ↓] Go.wp_at_zero Go.wp_at_succ

theorem conv_at (W : World) (q : Nat) (n : Int) (h0 : 0 ≤ n) (h1 : n ≤ 255) (hc : W.cell? ⟨q, 0, none⟩ = some (.int .u8 n)) :
    (convert 51 9 (.slice (some ⟨q, 0, none⟩) 1 1)).run Try.prog W = .ok (.string (key1 n)) W := by
  have h9 := run_convert_bytes_back (P := Try.prog) W 51 9 5 ⟨q, 0, none⟩ 1 [n.toNat.toUInt8] Try.underlying51 Try.underlying5 Try.underlying9 (fun j hj => by
      have hj0 : j = 0 := by simpa using hj
      subst hj0
      have h8 : (n.toNat.toUInt8).toNat = n.toNat := by
        simp only [Nat.toUInt8, UInt8.toNat_ofNat']
        omega
      rw [add0, hc]
      show some (Value.int .u8 n) = some (.int .u8 (((n.toNat.toUInt8).toNat : Nat) : Int))
      rw [h8, Int.toNat_of_nonneg h0])
  exact h9

theorem key1_ne (j : Int) : key1 j ≠ nil0 := fun h => by unfold key1 nil0 at h; injection h with h; injection h with h; cases h
theorem kc_not {a b : ByteArray} (h : ¬ kc b a < 0) : a = b ∨ kc a b < 0 := by
  unfold kc at h ⊢
  rcases cb_cases a.data.toList b.data.toList with h1 | h1 | h1
  · exact .inr (by omega)
  · refine .inl ?_
    have h2 := cb_zero _ _ h1
    rcases a with ⟨⟨a⟩⟩
    rcases b with ⟨⟨b⟩⟩
    simp only at h2
    rw [h2]
  · exfalso
    have h2 := cb_swap a.data.toList b.data.toList
    omega

theorem not_le_str {a b : ByteArray} (h : kc b a < 0) : Op.bytesLess a.toList b.toList = false ∧ ¬ a.toList = b.toList := by
  have h2 : kc b a = - kc a b := cb_swap _ _
  refine ⟨by rw [bl_kc]; exact decide_eq_false (by omega), fun e => ?_⟩
  rw [Lib.toList_data, Lib.toList_data] at e
  have h3 : kc b a = 0 := by unfold kc; rw [e]; exact cb_self _
  omega
theorem le_str {a b : ByteArray} (h : (!Op.bytesLess a.toList b.toList) = false ∨ (!a.toList == b.toList) = false) : ¬ kc b a < 0 := fun h2 => by
  obtain ⟨h3, h4⟩ := not_le_str h2
  rcases h with h | h
  · rw [h3] at h; cases h
  · have h5 : (a.toList == b.toList) = true := by simpa using h
    exact h4 (by simpa using h5)

/-- Walks that have not begun. -/
def Kept (B : Nat) (w : World) (p : Nat) (L : List E) (F : Nat → Prop) (l : List (Nat × Rg)) : Prop := ∀ y ∈ l, Wt B w p L F y.1 y.2 zM
theorem Kept.below {B : Nat} {w w' : World} {p : Nat} {L : List E} {F : Nat → Prop} {l : List (Nat × Rg)} (h : Kept B w p L F l) (b : Below w.heap.size w w') : Kept B w' p L F l := fun y hy => (h y hy).below b
theorem Kept.stays {B : Nat} {w w' : World} {p : Nat} {L : List E} {F G G' : Nat → Prop} {l : List (Nat × Rg)} (h : Kept B w p L F l) (m : Mv G G' w w') (hF : ∀ k, F k → ¬ G k) (hp : ∀ y ∈ l, ¬ G y.1) : Kept B w' p L F l := fun y hy => (h y hy).stays m hF (hp y hy)

set_option maxHeartbeats 4000000 in
set_option maxRecDepth 100000 in
theorem walkparts_walk (A : Option Addr) (n cap : Nat) (xs : List A8) (a b c : Int) (w : World) (hin : InA8 w A n cap xs) (ha : (Lit.int .u8 a).wf = true) (hb : (Lit.int .u8 b).wf = true) (hc : (Lit.int .u8 c).wf = true) :
    Calls Try.prog 5 #[.slice A n cap, .int .u8 a, .int .u8 b, .int .u8 c] w fun e w' => e = .returned (.bool true) ∧ Below w.heap.size w w' := by
  have HIN := hid_mk hin
  have ha' := wf_u8 ha
  have hb' := wf_u8 hb
  have hc' := wf_u8 hc
  have e8 : ∀ x : Int, 0 ≤ x ∧ x ≤ 255 → ∃ j : Int, 97 ≤ j ∧ j ≤ 104 ∧ IntKind.u8.wrap (97 + x.tmod 8) = j ∧ (97 + x.tmod 8) % 256 = j := fun x hx => by
    have h1 : x.tmod 8 = x % 8 := Int.tmod_eq_emod_of_nonneg hx.1
    have h2 : 0 ≤ x % 8 := Int.emod_nonneg _ (by omega)
    have h3 : x % 8 < 8 := Int.emod_lt_of_pos _ (by omega)
    refine ⟨97 + x % 8, by omega, by omega, ?_, ?_⟩
    · rw [h1, IntKind.wrap_u8]; omega
    · rw [h1]; omega
  obtain ⟨ja, ja0, ja1, ja2, ja3⟩ := e8 a ha'
  obtain ⟨jb, jb0, jb1, jb2, jb3⟩ := e8 b hb'
  obtain ⟨jc, jc0, jc1, jc2, jc3⟩ := e8 c hc'
  obtain ⟨sa, hsa⟩ : ∃ s, s = key1 ja := ⟨_, rfl⟩
  obtain ⟨sb, hsb⟩ : ∃ s, s = key1 jb := ⟨_, rfl⟩
  obtain ⟨sc, hsc⟩ : ∃ s, s = key1 jc := ⟨_, rfl⟩
  have cv1 : ∀ W q, W.cell? ⟨q, 0, none⟩ = some (.int .u8 ja) → (convert 51 9 (.slice (some ⟨q, 0, none⟩) 1 1)).run Try.prog W = .ok (.string sa) W := fun W q h => by rw [hsa]; exact conv_at W q _ (by omega) (by omega) h
  have cv2 : ∀ W q, W.cell? ⟨q, 0, none⟩ = some (.int .u8 jb) → (convert 51 9 (.slice (some ⟨q, 0, none⟩) 1 1)).run Try.prog W = .ok (.string sb) W := fun W q h => by rw [hsb]; exact conv_at W q _ (by omega) (by omega) h
  have cv3 : ∀ W q, W.cell? ⟨q, 0, none⟩ = some (.int .u8 jc) → (convert 51 9 (.slice (some ⟨q, 0, none⟩) 1 1)).run Try.prog W = .ok (.string sc) W := fun W q h => by rw [hsc]; exact conv_at W q _ (by omega) (by omega) h
  have HSA := hid_mk hsa
  have HSB := hid_mk hsb
  have HSC := hid_mk hsc
  clear hin ha hb hc hsa hsb hsc ha' hb' hc' e8
  go_enter Try.func5, Try.ntmps5
  go_wp2_with fail
  refine (wawake_any _).mono ?_
  rintro e w1 ⟨rfl, b1⟩
  have HIN1 := hid_mk (HIN.out.below b1)
  go_wp2_with fail
  refine (laid_any A n cap xs _ HIN1.out).mono ?_
  rintro e w2 ⟨p, u, L, F, rfl, T2, R2, -, hL, hE, b2⟩
  have B2 := bthen b1 b2
  have HT2 := hid_mk (T2.base b1.size)
  have HS := hid_mk T2.srt
  have HE := hid_mk hE
  clear T2 R2 hE b1 b2 HIN1 HIN
  go_wp2_with fail
  go_cut [11, 12, 13] (fun s1 s2 s3 wx => s1 = .string sa ∧ s2 = .string sb ∧ s3 = .string sc ∧ Hid (Below w2.heap.size w2 wx))
  case first =>
    have g1 : ∀ (v : Int) (o2 o3 : Obj), (((w2.alloc (.cells #[.int .u8 v] 5)).alloc o2).alloc o3).drew.cell? ⟨w2.heap.size, 0, none⟩ = some (.int .u8 v) := fun v o2 o3 => (cell_of_row _ _ 0 _ _ _ (by
      show (((w2.alloc (.cells #[.int .u8 v] 5)).alloc o2).alloc o3).heap[w2.heap.size]? = _
      rw [heap_alloc_old _ _ (by simp; omega), heap_alloc_old _ _ (by simp)]; exact heap_alloc_new w2 _)).trans rfl
    have g2 : ∀ (v : Int) (o1 o3 : Obj), (((w2.alloc o1).alloc (.cells #[.int .u8 v] 5)).alloc o3).drew.cell? ⟨w2.heap.size + 1, 0, none⟩ = some (.int .u8 v) := fun v o1 o3 => (cell_of_row _ _ 0 _ _ _ (by
      show (((w2.alloc o1).alloc (.cells #[.int .u8 v] 5)).alloc o3).heap[w2.heap.size + 1]? = _
      rw [heap_alloc_old _ _ (by simp)]
      have h9 := heap_alloc_new (w2.alloc o1) (.cells #[.int .u8 v] 5)
      rw [World.size_alloc] at h9; exact h9)).trans rfl
    have g3 : ∀ (v : Int) (o2 : Obj), ((w2.alloc (.cells #[.int .u8 v] 5)).alloc o2).drew.cell? ⟨w2.heap.size, 0, none⟩ = some (.int .u8 v) := fun v o2 => (cell_of_row _ _ 0 _ _ _ (by
      show ((w2.alloc (.cells #[.int .u8 v] 5)).alloc o2).heap[w2.heap.size]? = _
      rw [heap_alloc_old _ _ (by simp)]; exact heap_alloc_new w2 _)).trans rfl
    go_region
    all_goals
      go_wp2_with fail
      go_meet
      case rel => exact ⟨rfl, rfl, rfl, hid_mk (pw_below (n := 1) (bthen (bthen (balloc _) (balloc _)) (balloc _)))⟩
  case rest =>
    obtain ⟨rfl, rfl, rfl, hbc⟩ := hcut
    have HTC := hid_mk (HT2.out.below hbc.out)
    have BC := bthen B2 hbc.out
    clear hbc HT2 B2 cv1 cv2 cv3
    go_wp2_with fail
    all_goals try (go_ret; exact ⟨rfl, BC⟩)
    case inr =>
      rename ¬(_ ∨ _) => g1
      rename ¬(_ ∧ _) => g2
      exact absurd ⟨Bool.eq_false_iff.2 fun e => g1 (.inl e), fun e => g1 (.inr e)⟩ g2
    rename (_ ∨ _) ∧ (_ ∨ _) => hh
    have HPART := hid_mk (two_parts (L := L) HS.out (kc_not (le_str hh.1)) (kc_not (le_str hh.2)) (by rw [HSB.out]; exact key1_ne _) (by rw [HSC.out]; exact key1_ne _))
    clear hh HSA HSB HSC
    refine (wnew_any p ⟨sa, sb, false⟩ _).mono ?_
    rintro e w3 ⟨q1, rfl, W3, hq1, b3⟩
    go_wp2_with fail
    refine (wnew_any p ⟨sb, sc, false⟩ _).mono ?_
    rintro e w4 ⟨q2, rfl, W4, hq2, b4⟩
    go_wp2_with fail
    refine (wnew_any p ⟨sa, sc, false⟩ _).mono ?_
    rintro e w5 ⟨q3, rfl, W5, hq3, b5⟩
    have h12 : q1 < q2 := by have := W3.lt; omega
    have h23 : q2 < q3 := by have := W4.lt; omega
    have h3s := W5.lt
    have V1 := ((Wt.fresh HTC.out b3 W3 hq1).below b4).below b5
    have V2 := (Wt.fresh (HTC.out.below b3) b4 W4 hq2).below b5
    have V3 := Wt.fresh ((HTC.out.below b3).below b4) b5 W5 hq3
    have B5 := bthen (bthen (bthen BC b3) b4) b5
    have bz := balloc (w := w5) (.cells #[.pointer (some ⟨q1, 0, none⟩), .pointer (some ⟨q2, 0, none⟩)] 31)
    have PB := hid_mk (heap_alloc_new w5 (.cells #[.pointer (some ⟨q1, 0, none⟩), .pointer (some ⟨q2, 0, none⟩)] 31))
    have H1 := hid_mk (V1.below bz)
    have H2 := hid_mk (V2.below bz)
    have H3 := hid_mk (V3.below bz)
    have B6 := bthen B5 bz
    obtain ⟨PA, hPA⟩ : ∃ PA, PA = w5.heap.size := ⟨_, rfl⟩
    obtain ⟨w6, hw6⟩ : ∃ w6, w6 = w5.alloc (.cells #[.pointer (some ⟨q1, 0, none⟩), .pointer (some ⟨q2, 0, none⟩)] 31) := ⟨_, rfl⟩
    rw [← hw6] at PB H1 H2 H3 B6
    rw [← hPA] at PB
    obtain ⟨C, hC⟩ : ∃ C, C = w6.heap.size := ⟨_, rfl⟩
    have hPC : PA < C := by rw [hC]; exact lt_of_block PB.out
    have h3C : q3 < PA := by rw [hPA]; exact h3s
    have HW6 := hid_mk hw6
    have HPA := hid_mk hPA
    have HC := hid_mk hC
    obtain ⟨S1, hS1⟩ : ∃ S, S = partE L ⟨sa, sb, false⟩ := ⟨_, rfl⟩
    obtain ⟨S2, hS2⟩ : ∃ S, S = partE L ⟨sb, sc, false⟩ := ⟨_, rfl⟩
    obtain ⟨S3, hS3⟩ : ∃ S, S = partE L ⟨sa, sc, false⟩ := ⟨_, rfl⟩
    rw [← hS1, ← hS2, ← hS3] at HPART
    have l1 : S1.length ≤ 60 := by rw [hS1]; exact Nat.le_trans (part_length L _) hL
    have l2 : S2.length ≤ 60 := by rw [hS2]; exact Nat.le_trans (part_length L _) hL
    have l3 : S3.length ≤ 60 := by rw [hS3]; exact Nat.le_trans (part_length L _) hL
    obtain ⟨PP, hPP⟩ : ∃ PP : Nat → List E, PP = fun k => if k = 0 then [] else if k = 1 then S1 else S1 ++ S2 := ⟨_, rfl⟩
    obtain ⟨KL, hKL⟩ : ∃ KL : Nat → List (Nat × Rg), KL = fun k => [(q1, ⟨sa, sb, false⟩), (q2, ⟨sb, sc, false⟩), (q3, ⟨sa, sc, false⟩)].drop k := ⟨_, rfl⟩
    have HKN : Hid (∀ k, ∀ y ∈ KL k, y.1 < PA) := hid_mk fun k y hy => by
      rw [hKL] at hy
      have h9 := List.mem_of_mem_drop hy
      simp at h9
      rcases h9 with rfl | rfl | rfl <;> simp only <;> omega
    have HGEN : Hid (∀ k, k < 2 → ∃ z zr, KL k = (z, zr) :: KL (k + 1) ∧ (∀ y ∈ KL (k + 1), y.1 ≠ z) ∧ PP (k + 1) = PP k ++ partE L zr ∧ (partE L zr).length ≤ 60 ∧ (PP k).length ≤ 120 ∧ ∀ wx : World, wx.heap[PA]? = some (.cells #[.pointer (some ⟨q1, 0, none⟩), .pointer (some ⟨q2, 0, none⟩)] 31 (0, 0)) → wx.cell? ⟨PA, k, none⟩ = some (.pointer (some ⟨z, 0, none⟩))) := hid_mk fun k hk => by
      rcases (by omega : k = 0 ∨ k = 1) with rfl | rfl
      · refine ⟨q1, ⟨sa, sb, false⟩, by rw [hKL]; rfl, ?_, by rw [hPP, ← hS1]; rfl, by rw [← hS1]; exact l1, by rw [hPP]; simp, fun wx h => (cell_of_row _ _ 0 _ _ _ h).trans rfl⟩
        intro y hy
        rw [hKL] at hy
        simp at hy
        rcases hy with rfl | rfl <;> simp only <;> omega
      · refine ⟨q2, ⟨sb, sc, false⟩, by rw [hKL]; rfl, ?_, by rw [hPP, ← hS2]; rfl, by rw [← hS2]; exact l2, by rw [hPP]; simp; omega, fun wx h => (cell_of_row _ _ 1 _ _ _ h).trans rfl⟩
        intro y hy
        rw [hKL] at hy
        simp at hy
        subst hy
        simp only; omega
    have HK0 : Hid (Kept w.heap.size w6 p L F (KL 0)) := hid_mk fun y hy => by
      rw [hKL] at hy
      simp at hy
      rcases hy with rfl | rfl | rfl
      · exact H1.out
      · exact H2.out
      · exact H3.out
    have HP2 : Hid (PP 2 = S3) := hid_mk (by rw [hPP, ← HPART.out]; rfl)
    have HK2 : Hid (KL 2 = [(q3, ⟨sa, sc, false⟩)]) := hid_mk (by rw [hKL]; rfl)
    have HS3 := hid_mk hS3
    have R0 : Hid (Rw C w6 34 2 (.slice none 0 0) (PP 0).length (ecells (PP 0))) := hid_mk (by rw [hPP]; exact Rw.nil _ _ _ _)
    have HCw : Hid (w.heap.size ≤ C) := hid_mk (by rw [hC]; exact B6.size)
    have HFC : Hid (∀ j, F j → j < C) := hid_mk fun j hj => by rw [hC]; exact (H1.out.tree.foot j hj).2
    clear V1 V2 V3 B5 bz hq1 hq2 hq3 b3 b4 b5 W3 W4 W5 BC HTC hw6 hPA hC hS1 hS2 hS3 hPP hKL H1 H2 H3 HPART h12 h23 h3s l1 l2
    go_wp2_with fail
    rw [← HW6.out, ← HPA.out]
    go_loopw [17, 88] (fun o iv wx => ∃ k : Nat, iv = .int .i64 k ∧ k ≤ 2 ∧ Hid (Kept w.heap.size wx p L F (KL k)) ∧ Hid (Rw C wx 34 2 o (PP k).length (ecells (PP k))) ∧
      Hid (wx.heap[PA]? = some (.cells #[.pointer (some ⟨q1, 0, none⟩), .pointer (some ⟨q2, 0, none⟩)] 31 (0, 0))) ∧ C ≤ wx.heap.size ∧ Below w.heap.size w wx) (fun _ iv _ => 2 - (intOf iv).toNat)
    case atStart => exact ⟨0, rfl, Nat.zero_le _, HK0, R0, PB, HC.out ▸ Nat.le_refl _, B6⟩
    case round =>
      clear HK0 R0 PB B6
      obtain ⟨k, rfl, hk, HK, R, Y, hsx, hbx⟩ := hrel
      by_cases hlt : k < 2
      · obtain ⟨z, zr, e1, e2, e3, e4, e5, e6⟩ := HGEN.out k hlt
        have c0 := e6 _ Y.out
        have hk0 : (0 : Int) ≤ (k : Int) := by omega
        have hk2 : (k : Int) < 2 := by omega
        obtain ⟨S, hS⟩ : ∃ S, S = partE L zr := ⟨_, rfl⟩
        have HST : Hid (∀ k, nextE L zr (mkAt S k) = fz S[k]? ∧ mkOf (mkAt S k) (nextE L zr (mkAt S k)) = mkAt S (k + 1)) := hid_mk (by rw [hS]; exact walk_step HS.out HE.out.low _)
        rw [← hS] at e3 e4
        have HV : Hid (Wt w.heap.size wr p L F z zr (mkAt S 0)) := hid_mk (HK.out (z, zr) (by rw [e1]; simp))
        have HK1 : Hid (Kept w.heap.size wr p L F (KL (k + 1))) := hid_mk fun y hy => HK.out y (by rw [e1]; exact List.mem_cons_of_mem _ hy)
        have hzP : z < PA := HKN.out k (z, zr) (by rw [e1]; simp)
        have HKZ := hid_mk e2
        obtain ⟨P, hP⟩ : ∃ P, P = PP k := ⟨_, rfl⟩
        have HPN : Hid (PP (k + 1) = P ++ S) := hid_mk (by rw [e3, hP])
        have R1 : Hid (Rw C wr 34 2 _ (P ++ S.take 0).length (ecells (P ++ S.take 0))) := hid_mk (by rw [hP, List.take_zero, List.append_nil]; exact R.out)
        have hP120 : P.length ≤ 120 := by rw [hP]; exact e5
        have HS60 := hid_mk e4
        clear e1 e2 e3 e4 e5 e6 hS hP HK R
        go_wp2_with fail
        go_loopw [17, 92] (fun o iv wy => ∃ j : Nat, iv = .int .i64 j ∧ j ≤ 70 ∧ Hid (Wt w.heap.size wy p L F z zr (mkAt S j)) ∧ Hid (Kept w.heap.size wy p L F (KL (k + 1))) ∧ Hid (Rw C wy 34 2 o (P ++ S.take j).length (ecells (P ++ S.take j))) ∧
          Hid (wy.heap[PA]? = some (.cells #[.pointer (some ⟨q1, 0, none⟩), .pointer (some ⟨q2, 0, none⟩)] 31 (0, 0))) ∧ C ≤ wy.heap.size ∧ Below w.heap.size w wy) (fun _ iv _ => 70 - (intOf iv).toNat)
        case atStart => exact ⟨0, rfl, Nat.zero_le _, HV, HK1, R1, Y, hsx, hbx⟩
        case round =>
          clear HV HK1 R1 Y hsx hbx c0
          obtain ⟨j, rfl, hj, HV, HK, R, Y, hsx, hbx⟩ := hrel
          obtain ⟨O, hO⟩ : ∃ O, O = P ++ S.take j := ⟨_, rfl⟩
          obtain ⟨n1, hn1⟩ : ∃ n1, n1 = O.length := ⟨_, rfl⟩
          rw [← hO, ← hn1] at R
          have hn1l : n1 ≤ 200 := by rw [hn1, hO, List.length_append, List.length_take]; omega
          obtain ⟨Ao, co, rfl, _, _, _⟩ := R.out.shape
          have HO := hid_mk hO
          have HN1 := hid_mk hn1
          clear hO hn1
          by_cases hlt2 : j < 70
          · have hj7 : (j : Int) < 70 := by omega
            go_wp2_with fail
            refine (wnext_any w.heap.size p z L F zr (mkAt S j) _ HV.out).mono ?_
            rintro e w7 ⟨rfl, V7, m7⟩
            rw [(HST.out j).2] at V7
            rw [(HST.out j).1]
            have hsm7 := m7.size
            have K7 := HK.out.stays m7 (fun i hi e9 => HV.out.apart (e9 ▸ hi)) (fun y hy => HKZ.out y hy)
            have R7 := m7.rw_ R.out (fun i hi e9 => by have h1 := (R.out.lt i hi).1; omega)
            have Y7 := m7.at_ Y.out (by omega)
            have hb7 := hbx.trans (HV.out.moved m7)
            by_cases hm : j < S.length
            · obtain ⟨x, hx⟩ : ∃ x, S[j]? = some x := ⟨_, List.getElem?_eq_getElem hm⟩
              have HT1 : Hid (P ++ S.take (j + 1) = O ++ [x]) := hid_mk (by rw [take_get, hx, HO.out, List.append_assoc])
              rw [hx]
              have bz := balloc (w := w7) (.cells #[.string x.key, .int .i64 x.id] 34)
              obtain ⟨A3, c3, w8, hr, R8, m8⟩ := push_ent (R7.below bz) HN1.out (by simp; omega) x (by omega) (w7.heap.size + 1) (by simp)
              have HFO : ∀ i, F i → ¬ own (.slice Ao n1 co) i := fun i hi h9 => by have h1 := (R.out.lt i h9).1; have := HFC.out i hi; omega
              have V8 := hid_mk ((V7.below bz).stays m8 HFO (fun h9 => by have h1 := (R.out.lt _ h9).1; omega))
              have K8 := hid_mk ((K7.below bz).stays m8 HFO (fun y hy h9 => by have h1 := (R.out.lt _ h9).1; have := HKN.out _ y hy; omega))
              have Y8 := hid_mk (m8.at_ (below_block bz (lt_of_block Y7) Y7) (fun h9 => by have h1 := (R.out.lt _ h9).1; omega))
              have hb8 := (hb7.trans (bz.mono hb7.size)).trans (m8.below (fun i hi => by have h1 := (R.out.lt _ hi).1; have := HCw.out; omega) (by have := hb7.size; simp; omega))
              have HR8 := hid_mk R8
              have hsm8 := m8.size
              have hs8 : C ≤ w8.heap.size := by simp at hsm8; omega
              clear V7 K7 R7 Y7 hb7 m7 bz HV HK R Y hx hm hbx HFO hsm7 hsm8 m8 R8
              go_wp2_with (at_builtin; refine Lib.wpList_append_run _ rfl _ _ 25 25 rfl _ _ rfl rfl _ _ hr ?_)
              exact ⟨⟨j + 1, by go_num, by omega, V8, K8, hid_mk (by rw [HT1.out, List.length_append, ← HN1.out]; exact HR8.out), Y8, hs8, hb8⟩, by simp [intOf]; omega⟩
            · have hx : S[j]? = none := List.getElem?_eq_none (by omega)
              have HT1 : Hid (P ++ S.take (j + 1) = O) := hid_mk (by rw [take_get, hx, HO.out])
              rw [hx]
              have bz := balloc (w := w7) (.cells #[.string zE.key, .int .i64 zE.id] 34)
              have V8 := hid_mk (V7.below bz)
              have K8 := hid_mk (K7.below bz)
              have Y8 := hid_mk (below_block bz (lt_of_block Y7) Y7)
              have R8 := hid_mk (R7.below bz)
              have hb8 := hb7.trans (bz.mono hb7.size)
              have hs8 : C ≤ (w7.alloc (.cells #[.string zE.key, .int .i64 zE.id] 34)).heap.size := by simp at hsm7 ⊢; omega
              clear V7 K7 R7 Y7 hb7 m7 bz HV HK R Y hx hm hbx hsm7
              go_wp2_with fail
              exact ⟨⟨j + 1, by go_num, by omega, V8, K8, hid_mk (by rw [HT1.out, ← HN1.out]; exact R8.out), Y8, hs8, hb8⟩, by simp [intOf]; omega⟩
          · obtain rfl : j = 70 := by omega
            have hOe : O = PP (k + 1) := by rw [HO.out, HPN.out, List.take_of_length_le (by have := HS60.out; omega)]
            have R9 : Hid (Rw C wr 34 2 (.slice Ao n1 co) (PP (k + 1)).length (ecells (PP (k + 1)))) := hid_mk (by rw [← hOe, ← HN1.out]; exact R.out)
            clear HV R hOe
            go_wp2_with fail
            exact ⟨⟨k + 1, by go_num, by omega, HK, R9, Y, hsx, hbx⟩, by simp [intOf]; omega⟩
      · obtain rfl : k = 2 := by omega
        have HV : Hid (Wt w.heap.size wr p L F q3 ⟨sa, sc, false⟩ (mkAt S3 0)) := hid_mk (HK.out (q3, ⟨sa, sc, false⟩) (by rw [HK2.out]; simp))
        have HST : Hid (∀ k, nextE L ⟨sa, sc, false⟩ (mkAt S3 k) = fz S3[k]? ∧ mkOf (mkAt S3 k) (nextE L ⟨sa, sc, false⟩ (mkAt S3 k)) = mkAt S3 (k + 1)) := hid_mk (by rw [HS3.out]; exact walk_step HS.out HE.out.low _)
        have RP : Hid (Rw C wr 34 2 _ S3.length (ecells S3)) := hid_mk (by rw [← HP2.out]; exact R.out)
        obtain ⟨Ap, cp, rfl, _, _, _⟩ := RP.out.shape
        obtain ⟨D, hD⟩ : ∃ D, D = wr.heap.size := ⟨_, rfl⟩
        have HPO : Hid (∀ i, own (.slice Ap S3.length cp) i → C ≤ i ∧ i < D) := hid_mk fun i hi => by rw [hD]; exact RP.out.lt i hi
        rw [← hD] at hsx
        have HD := hid_mk hD
        have R1 : Hid (Rw D wr 34 2 (.slice none 0 0) (S3.take 0).length (ecells (S3.take 0))) := hid_mk (Rw.nil _ _ _ _)
        clear HK R hD Y
        go_wp2_with fail
        go_loopw [18, 106] (fun o iv wy => ∃ j : Nat, iv = .int .i64 j ∧ j ≤ 70 ∧ Hid (Wt w.heap.size wy p L F q3 ⟨sa, sc, false⟩ (mkAt S3 j)) ∧ Hid (Rw D wy 34 2 o (S3.take j).length (ecells (S3.take j))) ∧
          Hid (Rw C wy 34 2 (.slice Ap S3.length cp) S3.length (ecells S3)) ∧ D ≤ wy.heap.size ∧ Below w.heap.size w wy) (fun _ iv _ => 70 - (intOf iv).toNat)
        case atStart => exact ⟨0, rfl, Nat.zero_le _, HV, R1, RP, HD.out ▸ Nat.le_refl _, hbx⟩
        case round =>
          clear HV R1 RP hbx
          obtain ⟨j, rfl, hj, HV, R, RP, hsy, hbx⟩ := hrel
          obtain ⟨O, hO⟩ : ∃ O, O = S3.take j := ⟨_, rfl⟩
          obtain ⟨n1, hn1⟩ : ∃ n1, n1 = O.length := ⟨_, rfl⟩
          rw [← hO, ← hn1] at R
          have hn1l : n1 ≤ 70 := by rw [hn1, hO, List.length_take]; omega
          obtain ⟨Ao, co, rfl, _, _, _⟩ := R.out.shape
          have HO := hid_mk hO
          have HN1 := hid_mk hn1
          clear hO hn1
          by_cases hlt2 : j < 70
          · have hj7 : (j : Int) < 70 := by omega
            go_wp2_with fail
            refine (wnext_any w.heap.size p q3 L F ⟨sa, sc, false⟩ (mkAt S3 j) _ HV.out).mono ?_
            rintro e w7 ⟨rfl, V7, m7⟩
            rw [(HST.out j).2] at V7
            rw [(HST.out j).1]
            have hsm7 := m7.size
            have R7 := m7.rw_ R.out (fun i hi e9 => by have h1 := (R.out.lt i hi).1; omega)
            have RP7 := m7.rw_ RP.out (fun i hi e9 => by have h1 := (RP.out.lt i hi).1; omega)
            have hb7 := hbx.trans (HV.out.moved m7)
            by_cases hm : j < S3.length
            · obtain ⟨x, hx⟩ : ∃ x, S3[j]? = some x := ⟨_, List.getElem?_eq_getElem hm⟩
              have HT1 : Hid (S3.take (j + 1) = O ++ [x]) := hid_mk (by rw [take_get, hx, HO.out])
              rw [hx]
              have bz := balloc (w := w7) (.cells #[.string x.key, .int .i64 x.id] 34)
              obtain ⟨A3, c3, w8, hr, R8, m8⟩ := push_ent (R7.below bz) HN1.out (by simp; omega) x (by omega) (w7.heap.size + 1) (by simp)
              have HFO : ∀ i, F i → ¬ own (.slice Ao n1 co) i := fun i hi h9 => by have h1 := (R.out.lt i h9).1; have := HFC.out i hi; omega
              have V8 := hid_mk ((V7.below bz).stays m8 HFO (fun h9 => by have h1 := (R.out.lt _ h9).1; omega))
              have RP8 := hid_mk (m8.rw_ (RP7.below bz) (fun i hi h9 => by have h1 := (R.out.lt _ h9).1; have := (HPO.out i hi).2; omega))
              have hb8 := (hb7.trans (bz.mono hb7.size)).trans (m8.below (fun i hi => by have h1 := (R.out.lt _ hi).1; have := HCw.out; omega) (by have := hb7.size; simp; omega))
              have HR8 := hid_mk R8
              have hsm8 := m8.size
              have hs8 : D ≤ w8.heap.size := by simp at hsm8; omega
              clear V7 RP7 R7 hb7 m7 bz HV RP R hx hm hbx HFO hsm7 hsm8 m8 R8
              go_wp2_with (at_builtin; refine Lib.wpList_append_run _ rfl _ _ 25 25 rfl _ _ rfl rfl _ _ hr ?_)
              refine ⟨⟨_, _, _, _, _, _, _, _, _, _, _, _, _, _, _, _, ⟨j + 1, ?_, by omega, V8, ?_, RP8, hs8, hb8⟩, rfl⟩, ?_⟩
              · go_num
              · exact hid_mk (by rw [HT1.out, List.length_append, ← HN1.out]; exact HR8.out)
              · show 70 - (intOf (.int .i64 _)).toNat < 70 - (intOf (.int .i64 (j : Int))).toNat
                simp [intOf]
                omega
            · have hx : S3[j]? = none := List.getElem?_eq_none (by omega)
              have HT1 : Hid (S3.take (j + 1) = O) := hid_mk (by rw [take_get, hx, HO.out])
              rw [hx]
              have bz := balloc (w := w7) (.cells #[.string zE.key, .int .i64 zE.id] 34)
              have V8 := hid_mk (V7.below bz)
              have RP8 := hid_mk (RP7.below bz)
              have R8 := hid_mk (R7.below bz)
              have hb8 := hb7.trans (bz.mono hb7.size)
              have hs8 : D ≤ (w7.alloc (.cells #[.string zE.key, .int .i64 zE.id] 34)).heap.size := by simp at hsm7 ⊢; omega
              clear V7 RP7 R7 hb7 m7 bz HV RP R hx hm hbx hsm7
              go_wp2_with fail
              refine ⟨⟨_, _, _, _, _, _, _, _, _, _, _, _, _, _, _, _, ⟨j + 1, ?_, by omega, V8, ?_, RP8, hs8, hb8⟩, rfl⟩, ?_⟩
              · go_num
              · exact hid_mk (by rw [HT1.out, ← HN1.out]; exact R8.out)
              · show 70 - (intOf (.int .i64 _)).toNat < 70 - (intOf (.int .i64 (j : Int))).toNat
                simp [intOf]
                omega
          · obtain rfl : j = 70 := by omega
            have hOe : O = S3 := by rw [HO.out]; exact List.take_of_length_le (by omega)
            have R9 : Hid (Rw D wr 34 2 (.slice Ao n1 co) S3.length (ecells S3)) := hid_mk (by rw [← hOe, ← HN1.out]; exact R.out)
            clear HV R hOe
            go_wp2_with fail
            refine (same_true S3 C D _ _ _ RP.out R9.out).mono ?_
            rintro e w8 ⟨rfl, b8⟩
            have hb8 := hbx.trans (b8.mono hbx.size)
            go_wp2_with fail
            go_ret
            exact ⟨rfl, hb8⟩

end Go.Proofs.Ytanomhjekdefeaa
