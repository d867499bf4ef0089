/- The walk over the law WalkWaits. -/
import Derived.Test.YtanomhjekdefeaaWalkSeq
namespace Go.Proofs.Ytanomhjekdefeaa
open Go.RowKit
set_option linter.unusedVariables false

def rAll : Rg := ⟨nil0, nil0, false⟩
theorem inR_all (e : E) : inR e rAll = true := by
  unfold inR behindK ahead rAll
  have h : ¬ kc e.key nil0 < 0 := by
    show ¬ cb e.key.data.toList [] < 0
    rcases e.key.data.toList with _ | ⟨x, l⟩ <;> simp [cb, Lib.compareBytes]
  simp [h]
theorem part_all (L : List E) : partE L rAll = L := by
  unfold partE rowE
  rw [if_neg (by simp [rAll])]
  exact List.filter_eq_self.2 fun e _ => inR_all e
def late (i : Int) : E := ⟨⟨#[122]⟩, i⟩
theorem lt_late {a : A8} (h : a.ok) (i : Int) : lt a.ent (late i) := by
  refine lt_of_key ?_
  obtain ⟨_, ⟨k0, k1⟩, _⟩ := h
  have h1 : 0 ≤ a.key % 6 := Int.emod_nonneg _ (by omega)
  have h2 : a.key % 6 < 6 := Int.emod_lt_of_pos _ (by omega)
  show cb [(97 + a.key % 6).toNat.toUInt8] [122] < 0
  have h3 : (97 + a.key % 6).toNat.toUInt8 < (122 : UInt8) := by
    rw [UInt8.lt_iff_toNat_lt]
    simp only [Nat.toUInt8, UInt8.toNat_ofNat']
    have : (122 : UInt8).toNat = 122 := rfl
    omega
  simp [cb, Lib.compareBytes, h3]
theorem last_all {L : List E} {x : E} (hs : Srt L) (hx : L.getLast? = some x) : ∀ y ∈ L, ¬ lt x y := by
  obtain ⟨D, rfl⟩ := List.getLast?_eq_some_iff.1 hx
  intro y hy
  rcases List.mem_append.1 hy with h | h
  · exact lt_asymm ((List.pairwise_append.1 hs).2.2 y h x (by simp))
  · have : y = x := by simpa using h
    subst this
    exact lt_irrefl y
theorem mk_end (S : List E) (k : Nat) (hk : S.length ≤ k) : mkAt S k = match S.getLast? with | none => zM | some x => ⟨x, true⟩ := by
  unfold mkAt
  rw [List.take_of_length_le hk]
  cases S.getLast? <;> rfl
def behindAll (L : List E) (e : E) : Bool := match L.getLast? with | none => true | some l => decide (lt l e)
theorem waits {L : List E} (hs : Srt L) (hE : EntL L) {a : A8} (ha : a.ok) (i : Int) (hi : -9223372036854775808 ≤ i) (k : Nat) (hk : L.length ≤ k) :
    nextE (add (late i) (add a.ent L)) rAll (mkAt L k) = (if behindAll L a.ent = true then a.ent else late i, true) := by
  have hs1 := srt_add a.ent hs
  have hs2 := srt_add (late i) hs1
  have hlow : Low (add (late i) (add a.ent L)) := fun y hy => by
    rcases mem_addE hy with rfl | hy
    · exact hi
    · exact (hE.add ha).low y hy
  rw [next_eq hs2 hlow, law_part, part_all, ← hd_filter]
  have hll := lt_late ha i
  have hT : Srt ((add (late i) (add a.ent L)).filter (pastE rAll (mkAt L k))) := hs2.sublist List.filter_sublist
  have hmem : ∀ y, y ∈ (add (late i) (add a.ent L)).filter (pastE rAll (mkAt L k)) ↔ (y = late i ∨ y = a.ent ∨ y ∈ L) ∧ pastE rAll (mkAt L k) y = true := fun y => by
    rw [List.mem_filter, mem_add _ _ _ hs1, mem_add _ _ _ hs]
  have hm := mk_end L k hk
  by_cases hb : behindAll L a.ent = true
  · rw [if_pos hb]
    have h1 : (add (late i) (add a.ent L)).filter (pastE rAll (mkAt L k)) = [a.ent, late i] := by
      refine srt_eq _ _ hT (List.Pairwise.cons (fun z hz => by simp at hz; rw [hz]; exact hll) (List.pairwise_singleton _ _)) fun y => ?_
      rw [hmem, hm]
      unfold behindAll at hb
      rcases hl : L.getLast? with _ | l
      · have hL : L = [] := List.getLast?_eq_none_iff.1 hl
        subst hL
        have hp : pastE rAll zM y = true := rfl
        simp [hp, or_comm]
      · rw [hl] at hb
        simp only [decide_eq_true_eq] at hb
        rw [past_ord]
        show (y = late i ∨ y = a.ent ∨ y ∈ L) ∧ lt l y ↔ y ∈ [a.ent, late i]
        constructor
        · rintro ⟨h | h | h, h2⟩
          · simp [h]
          · simp [h]
          · exact absurd h2 (last_all hs hl y h)
        · intro h
          simp at h
          rcases h with rfl | rfl
          · exact ⟨.inr (.inl rfl), hb⟩
          · exact ⟨.inl rfl, lt_trans hb hll⟩
    rw [h1]
    rfl
  · rw [if_neg hb]
    have h1 : (add (late i) (add a.ent L)).filter (pastE rAll (mkAt L k)) = [late i] := by
      refine srt_eq _ _ hT (List.pairwise_singleton _ _) fun y => ?_
      rw [hmem, hm]
      unfold behindAll at hb
      rcases hl : L.getLast? with _ | l
      · rw [hl] at hb; exact absurd rfl hb
      · rw [hl] at hb
        simp only [decide_eq_true_eq] at hb
        rw [past_ord]
        show (y = late i ∨ y = a.ent ∨ y ∈ L) ∧ lt l y ↔ y ∈ [late i]
        have hlm : l ∈ L := List.mem_of_getLast? hl
        constructor
        · rintro ⟨h | h | h, h2⟩
          · simp [h]
          · exact absurd (h ▸ h2) hb
          · exact absurd h2 (last_all hs hl y h)
        · intro h
          simp at h
          subst h
          obtain ⟨b, hbo, he⟩ := hE l hlm
          exact ⟨.inl rfl, by rw [he]; exact lt_late hbo i⟩
    rw [h1]
    rfl
attribute [local go_sem ↓] Go.wp_at_zero Go.wp_at_succ

theorem at_end {L : List E} (hs : Srt L) (hE : EntL L) (hL : L.length ≤ 60) : nextE L rAll (mkAt L 70) = (zE, false) := by
  have h := (walk_step hs hE.low rAll 70).1
  rw [part_all] at h
  rw [h, List.getElem?_eq_none (by omega)]
  rfl
theorem Wt.added {B : Nat} {w w' : World} {tp : Nat} {L L' : List E} {F F' : Nat → Prop} {p : Nat} {r : Rg} {m : Mk} (H : Wt B w tp L F p r m) (T : Tree B w' tp L' F') (h : Mv F F' w w') : Wt B w' tp L' F' p r m :=
  ⟨T, h.at_ H.wk H.apart, H.base, fun hf => by
    rcases h.new _ hf with h1 | h1
    · exact H.apart h1
    · have := H.wk.lt; omega⟩

set_option maxHeartbeats 4000000 in
set_option maxRecDepth 100000 in
theorem walkwaits_walk (A : Option Addr) (n cap : Nat) (xs : List A8) (x : A8) (w : World) (hin : InA8 w A n cap xs) (hx : x.ok) :
    Calls Try.prog 6 #[.slice A n cap, .agg #[.int .u8 x.kind, .int .u8 x.key, .int .u8 x.id]] w fun e w' => e = .returned (.bool true) ∧ Below w.heap.size w w' := by
  have HIN := hid_mk hin
  have HO := hid_mk hx
  clear hin hx
  go_enter Try.func6, Try.ntmps6
  go_wp2_with fail
  have b0 : Below w.heap.size w (w.alloc (.cells #[.int .u8 x.kind, .int .u8 x.key, .int .u8 x.id] 38)) := balloc _
  have Y0 := hid_mk (heap_alloc_new w (.cells #[.int .u8 x.kind, .int .u8 x.key, .int .u8 x.id] 38))
  refine (wawake_any _).mono ?_
  rintro e w1 ⟨rfl, b1⟩
  have B1 := bthen b0 b1
  have HIN1 := hid_mk (HIN.out.below B1)
  have Y1 := hid_mk (below_block b1 (by simp) Y0.out)
  clear Y0 b0
  go_wp2_with fail
  refine (laid_any A n cap xs _ HIN1.out).mono ?_
  rintro e w2 ⟨p, u, L, F, rfl, T2, R2, hap, hL, hE, b2⟩
  have B2 := bthen B1 b2
  have HT2 := hid_mk T2
  have HR2 := hid_mk R2
  have HAP := hid_mk hap
  have HE := hid_mk hE
  have HS := hid_mk T2.srt
  have hs1 : w.heap.size < w1.heap.size := lt_of_block Y1.out
  have Y2 := hid_mk (below_block b2 hs1 Y1.out)
  have HFT : Hid (∀ k, F k → w1.heap.size ≤ k ∧ k < w2.heap.size) := hid_mk fun k hk => T2.foot k hk
  clear T2 R2 hap hE b1 b2 B1 HIN1 HIN Y1
  go_wp2_with fail
  refine (wnew_any p rAll _).mono ?_
  rintro e w3 ⟨q, rfl, W3, hq, b3⟩
  have HW3 := hid_mk (Wt.fresh HT2.out b3 W3 hq)
  have HR3 := hid_mk (HR2.out.below b3)
  have Y3 := hid_mk (below_block b3 (lt_of_block Y2.out) Y2.out)
  have HQ : Hid (w.heap.size ≠ q) := hid_mk (by have := lt_of_block Y2.out; omega)
  have HQR : Hid (Apart u fun k => k = q) := hid_mk fun k hk hf => by have := (HR2.out.lt k hk).2; omega
  have B3 := bthen B2 b3
  have hs3 := b3.size
  have HM : Hid (zM = mkAt L 0) := hid_mk rfl
  clear HT2 HR2 Y2 W3 hq b3 B2
  rw [HM.out] at HW3
  go_wp2_with fail
  go_loopw [32] (fun iv wr => ∃ k : Nat, iv = .int .i64 k ∧ k ≤ 70 ∧ Hid (Wt w1.heap.size wr p L F q rAll (mkAt L k)) ∧ Hid (Rw w1.heap.size wr 34 2 u L.length (ecells L)) ∧ Hid (wr.heap[w.heap.size]? = some (.cells #[.int .u8 x.kind, .int .u8 x.key, .int .u8 x.id] 38 (0, 0))) ∧ w2.heap.size ≤ wr.heap.size ∧ Below w.heap.size w wr) (fun iv _ => 70 - (intOf iv).toNat)
  case atStart => exact ⟨0, rfl, Nat.zero_le _, HW3, HR3, Y3, hs3, B3⟩
  case round =>
    clear HW3 HR3 Y3 B3 hs3
    obtain ⟨k, rfl, hk, HW, HR, Y, hsr, hbr⟩ := hrel
    by_cases hlt : k < 70
    · have hk7 : (k : Int) < 70 := by omega
      go_wp2_with fail
      refine (wnext_any w1.heap.size p q L F rAll (mkAt L k) _ HW.out).mono ?_
      rintro e w6 ⟨rfl, W6, m6⟩
      have hst := walk_step HS.out HE.out.low rAll k
      rw [part_all] at hst
      rw [hst.2] at W6
      have HW6 := hid_mk W6
      have HR6 := hid_mk (m6.rw_ HR.out HQR.out)
      have Y6 := hid_mk (m6.at_ Y.out HQ.out)
      have hb6 := hbr.trans ((HW.out.moved m6).mono (by omega))
      have hs6 : w2.heap.size ≤ w6.heap.size := Nat.le_trans hsr m6.size
      clear hst W6 m6 HW HR Y hbr hsr
      go_wp2_with fail
      exact ⟨⟨k + 1, by go_num, by omega, HW6, HR6, Y6, hs6, hb6⟩, by simp [intOf]; omega⟩
    · obtain rfl : k = 70 := by omega
      go_wp2_with fail
      have HEND := hid_mk (at_end HS.out HE.out hL)
      refine (wnext_any w1.heap.size p q L F rAll (mkAt L 70) _ HW.out).mono ?_
      rintro e w4 ⟨rfl, W4, m4⟩
      rw [HEND.out] at W4 ⊢
      have bz := balloc (w := w4) (.cells #[.string zE.key, .int .i64 zE.id] 34)
      have HW4 : Hid (Wt w1.heap.size (w4.alloc (.cells #[.string zE.key, .int .i64 zE.id] 34)) p L F q rAll (mkAt L 70)) := hid_mk (Wt.below W4 bz)
      have HR4 := hid_mk ((m4.rw_ HR.out HQR.out).below bz)
      have Y4 := m4.at_ Y.out HQ.out
      have HY4 := hid_mk (below_block bz (lt_of_block Y4) Y4)
      have hb4 := hbr.trans ((HW.out.moved m4).mono (by omega))
      have B4 := hb4.trans (bz.mono hb4.size)
      have hs4 : w2.heap.size ≤ w4.heap.size := Nat.le_trans hsr m4.size
      clear W4 m4 bz HW HR Y Y4 hbr hb4 hlt hsr
      go_wp2_with fail
      refine (mark_any q p rAll (mkAt L 70) _ HW4.out.wk).mono ?_
      rintro e w5 ⟨rfl, b5⟩
      obtain ⟨mm, hmm⟩ : ∃ mm, mm = mkAt L 70 := ⟨_, rfl⟩
      rw [← hmm] at HW4 HEND ⊢
      have HMM := hid_mk hmm
      have bz := balloc (w := w5) (.cells #[.string mm.e.key, .int .i64 mm.e.id, .bool mm.b] 36)
      have b6 := bthen b5 bz
      have HW6 := hid_mk (HW4.out.below b6)
      have HR6 := hid_mk (HR4.out.below b6)
      have HY6 := hid_mk (below_block b6 (lt_of_block HY4.out) HY4.out)
      have HM6 := hid_mk (heap_alloc_new w5 (.cells #[.string mm.e.key, .int .i64 mm.e.id, .bool mm.b] 36))
      have HQM : Hid (w5.heap.size ≠ q) := hid_mk fun e9 => by have := (HW4.out.below b5).wk.lt; omega
      have B6 := B4.trans (b6.mono B4.size)
      have hs5 : w2.heap.size ≤ w5.heap.size := by have h1 := b5.size; have h2 := hs4; simp at h1; omega
      clear hmm bz b5 b6 HW4 HR4 HY4 B4
      go_wp2_with fail
      refine (wnext_any w1.heap.size p q L F rAll mm _ HW6.out).mono ?_
      rintro e w7 ⟨rfl, W7, m7⟩
      rw [HEND.out] at W7 ⊢
      have bz := balloc (w := w7) (.cells #[.string zE.key, .int .i64 zE.id] 34)
      have HW8 : Hid (Wt w1.heap.size (w7.alloc (.cells #[.string zE.key, .int .i64 zE.id] 34)) p L F q rAll mm) := hid_mk (Wt.below W7 bz)
      have HR8 := hid_mk ((m7.rw_ HR6.out HQR.out).below bz)
      have Y7 := m7.at_ HY6.out HQ.out
      have M7 := m7.at_ HM6.out HQM.out
      have Y8 := below_block bz (lt_of_block Y7) Y7
      have HY8 := hid_mk Y8
      have HM8 := hid_mk (below_block bz (lt_of_block M7) M7)
      have hb7 := B6.trans ((HW6.out.moved m7).mono (by omega))
      have HQL : Hid (w7.heap.size + 1 ≠ q) := hid_mk fun e9 => by have := W7.wk.lt; omega
      have hs7 : w2.heap.size ≤ w7.heap.size + 1 := by have h1 := m7.size; simp at h1; omega
      have B8 := hb7.trans (bz.mono hb7.size)
      have t0 : (w7.alloc (.cells #[.string zE.key, .int .i64 zE.id] 34)).cell? ⟨w.heap.size, 0, none⟩ = some (.int .u8 x.kind) := (cell_of_row _ _ 0 _ _ _ Y8).trans rfl
      have t1 : (w7.alloc (.cells #[.string zE.key, .int .i64 zE.id] 34)).cell? ⟨w.heap.size, 1, none⟩ = some (.int .u8 x.key) := (cell_of_row _ _ 1 _ _ _ Y8).trans rfl
      have t2 : (w7.alloc (.cells #[.string zE.key, .int .i64 zE.id] 34)).cell? ⟨w.heap.size, 2, none⟩ = some (.int .u8 x.id) := (cell_of_row _ _ 2 _ _ _ Y8).trans rfl
      have bz2 := balloc (w := w7.alloc (.cells #[.string zE.key, .int .i64 zE.id] 34)) (.cells #[.string ⟨#[122]⟩, .int .i64 x.id] 34)
      have hwr : wrap64 x.id = x.id := by have := HO.out.2.2; unfold wrap64; omega
      have v0 := keep_cell bz2 t0
      have v1 := keep_cell bz2 t1
      have v2 := keep_cell bz2 t2
      clear W7 m7 bz HW6 HR6 Y7 M7 Y8 hb7 HY6 HM6 B6
      go_wp2_with fail
      have HW9 := hid_mk (HW8.out.below bz2)
      have HR9 := hid_mk (HR8.out.below bz2)
      have HY9 := hid_mk (below_block bz2 (lt_of_block HY8.out) HY8.out)
      have HM9 := hid_mk (below_block bz2 (lt_of_block HM8.out) HM8.out)
      have HL9 : Hid (((w7.alloc (.cells #[.string zE.key, .int .i64 zE.id] 34)).alloc (.cells #[.string ⟨#[122]⟩, .int .i64 x.id] 34)).heap[w7.heap.size + 1]? = some (.cells #[.string ⟨#[122]⟩, .int .i64 x.id] 34 (0, 0))) := hid_mk (by
        have h9 := heap_alloc_new (w7.alloc (.cells #[.string zE.key, .int .i64 zE.id] 34)) (.cells #[.string ⟨#[122]⟩, .int .i64 x.id] 34)
        rw [World.size_alloc] at h9; exact h9)
      have B9 := B8.trans (bz2.mono B8.size)
      refine (entry_any x _ HO.out).mono ?_
      rintro e w10 ⟨rfl, b10⟩
      have HW10 := hid_mk (HW9.out.below b10)
      have HR10 := hid_mk (HR9.out.below b10)
      have HY10 := hid_mk (below_block b10 (lt_of_block HY9.out) HY9.out)
      have HM10 := hid_mk (below_block b10 (lt_of_block HM9.out) HM9.out)
      have HL10 := hid_mk (below_block b10 (lt_of_block HL9.out) HL9.out)
      have B10 := B9.trans (b10.mono B9.size)
      clear HW8 HR8 HY8 HM8 HW9 HR9 HY9 HM9 HL9 B8 B9 b10 bz2 t0 t1 t2 v0 v1 v2
      go_wp2_with fail
      refine (tadd_any w1.heap.size p L F x.ent _ HW10.out.tree (by omega)).mono ?_
      rintro e w11 ⟨rfl, F1, T1, m1⟩
      have HW11 := hid_mk (HW10.out.added T1 m1)
      have hNF : ∀ k, k < w1.heap.size → ¬ F k := fun k hk hf => by have := (HFT.out k hf).1; omega
      have hNG : ∀ k, w2.heap.size ≤ k → ¬ F k := fun k hk hf => by have := (HFT.out k hf).2; omega
      have HM11 := hid_mk (m1.at_ HM10.out (hNG _ hs5))
      have HL11 := hid_mk (m1.at_ HL10.out (hNG _ hs7))
      have HR11 := hid_mk (m1.rw_ HR10.out HAP.out)
      have AP11 := hid_mk (HAP.out.moved m1 fun j hj => (HR10.out.lt j hj).2)
      have HY11 := hid_mk (m1.at_ HY10.out (hNF _ hs1))
      have B11 := B10.trans ((HW10.out.tree.moved m1).mono (by omega))
      have hN1 : ∀ k, ¬ F k → k < w10.heap.size → ¬ F1 k := fun k hk hl hf => by
        rcases m1.new k hf with h | h
        · exact hk h
        · omega
      have HN1 := hid_mk hN1
      have l0 : w11.cell? ⟨w7.heap.size + 1, 0, none⟩ = some (.string ⟨#[122]⟩) := (cell_of_row _ _ 0 _ _ _ HL11.out).trans rfl
      have l1 : w11.cell? ⟨w7.heap.size + 1, 1, none⟩ = some (.int .i64 x.id) := (cell_of_row _ _ 1 _ _ _ HL11.out).trans rfl
      have hla := hid_mk (add_le (e := x.ent) HS.out)
      clear T1 m1 HW10 HR10 HY10 B10 hN1
      go_wp2_with fail
      refine (tadd_any w1.heap.size p (add x.ent L) F1 (late x.id) _ HW11.out.tree (by have := hla.out; omega)).mono ?_
      rintro e w12 ⟨rfl, F2, T2, m2⟩
      have HW12 := hid_mk (HW11.out.added T2 m2)
      have HM12 := hid_mk (m2.at_ HM11.out (HN1.out _ (hNG _ hs5) (lt_of_block HM10.out)))
      have HL12 := hid_mk (m2.at_ HL11.out (HN1.out _ (hNG _ hs7) (lt_of_block HL10.out)))
      have HR12 := hid_mk (m2.rw_ HR11.out AP11.out)
      have HY12 := hid_mk (m2.at_ HY11.out (fun hf => by have := (HW11.out.tree.foot _ hf).1; omega))
      have B12 := B11.trans ((HW11.out.tree.moved m2).mono (by omega))
      have HWAIT := hid_mk (waits HS.out HE.out HO.out x.id (by have := HO.out.2.2; omega) 70 (by omega))
      rw [← HMM.out] at HWAIT
      clear T2 m2 HM11 HL11 HR11 AP11 HY11 HW11 B11 HM10 HL10 HN1 l0 l1
      go_wp2_with fail
      refine (wnext_any w1.heap.size p q _ F2 rAll mm _ HW12.out).mono ?_
      rintro e w13 ⟨rfl, W13, m3⟩
      rw [HWAIT.out]
      obtain ⟨z, hz⟩ : ∃ z, z = (if behindAll L x.ent = true then x.ent else late x.id) := ⟨_, rfl⟩
      rw [← hz]
      have HZ := hid_mk hz
      have M13 := m3.at_ HM12.out HQM.out
      have L13 := m3.at_ HL12.out HQL.out
      have Y13 := m3.at_ HY12.out HQ.out
      have R13 := m3.rw_ HR12.out HQR.out
      have b13 := B12.trans ((HW12.out.moved m3).mono (by omega))
      have bz := balloc (w := w13) (.cells #[.string z.key, .int .i64 z.id] 34)
      have HM14 := hid_mk (below_block bz (lt_of_block M13) M13)
      have HL14 := hid_mk (below_block bz (lt_of_block L13) L13)
      have HY14 := hid_mk (below_block bz (lt_of_block Y13) Y13)
      have HR14 := hid_mk (R13.below bz)
      have HZ14 := hid_mk (heap_alloc_new w13 (.cells #[.string z.key, .int .i64 z.id] 34))
      have B14 := b13.trans (bz.mono b13.size)
      clear hz W13 m3 M13 L13 Y13 R13 b13 bz HM12 HL12 HR12 HY12 HW12 B12
      go_wp2_with fail
      obtain ⟨wb, hwb⟩ : ∃ wb, wb = w13.alloc (.cells #[.string z.key, .int .i64 z.id] 34) := ⟨_, rfl⟩
      rw [← hwb] at HM14 HL14 HY14 HR14 HZ14 B14 ⊢
      have k0 : ∀ y : BW wb, y.w.cell? ⟨w.heap.size, 0, none⟩ = some (.int .u8 x.kind) := fun y => y.cell ((cell_of_row _ _ 0 _ _ _ HY14.out).trans rfl)
      have k1 : ∀ y : BW wb, y.w.cell? ⟨w.heap.size, 1, none⟩ = some (.int .u8 x.key) := fun y => y.cell ((cell_of_row _ _ 1 _ _ _ HY14.out).trans rfl)
      have k2 : ∀ y : BW wb, y.w.cell? ⟨w.heap.size, 2, none⟩ = some (.int .u8 x.id) := fun y => y.cell ((cell_of_row _ _ 2 _ _ _ HY14.out).trans rfl)
      have HENT : Hid (∀ y : BW wb, Calls Try.prog 14 #[.agg #[.int .u8 x.kind, .int .u8 x.key, .int .u8 x.id]] y.w fun e w'' => e = .returned (.agg #[.string x.ent.key, .int .i64 x.ent.id]) ∧ ∃ y' : BW wb, w'' = y'.w) := hid_mk fun y => (entry_any x y.w HO.out).mono (by rintro e w' ⟨rfl, b⟩; exact ⟨rfl, y.step b⟩)
      obtain ⟨Au, cu, rfl, hcu, hmu, hA⟩ := rw_ents HR14.out
      obtain ⟨xe, hxe⟩ : ∃ xe, xe = x.ent := ⟨_, rfl⟩
      rw [← hxe] at HENT HZ
      clear hwb hxe HWAIT HY14 hla HFT HQR hNF hNG HAP HM
      rcases Nat.eq_zero_or_pos L.length with h0 | hpos
      · obtain rfl : L = [] := List.eq_nil_of_length_eq_zero h0
        have hz : z = xe := HZ.out.trans (if_pos rfl)
        subst hz
        have z0 : ∀ y : BW wb, y.w.cell? ⟨w13.heap.size, 0, none⟩ = some (.string z.key) := fun y => y.cell ((cell_of_row _ _ 0 _ _ _ HZ14.out).trans rfl)
        have z1 : ∀ y : BW wb, y.w.cell? ⟨w13.heap.size, 1, none⟩ = some (.int .i64 z.id) := fun y => y.cell ((cell_of_row _ _ 1 _ _ _ HZ14.out).trans rfl)
        clear hA h0 HZ
        refine wp_region_bw wb (by kernel_rfl) (by kernel_rfl) (Below.refl _ _) ?_
        repeat (go_big_quiet_step ((first | exact HENT.out _)))
        refine wpQuiet_nil ?_
        rintro _ ⟨y, rfl⟩
        go_wp2_with fail
        refine wp_region_bw wb (by kernel_rfl) (by kernel_rfl) y.h ?_
        repeat (go_big_quiet_step ((first | exact HENT.out _)))
        refine wpQuiet_nil ?_
        rintro _ ⟨y2, rfl⟩
        go_wp2_with fail
        go_ret
        exact ⟨rfl, B14.trans (y2.h.mono B14.size)⟩
      · obtain ⟨m, hm⟩ : ∃ m, L.length = m + 1 := ⟨L.length - 1, by omega⟩
        obtain ⟨g, rfl, hg, hcs⟩ := hA hpos
        obtain ⟨c0, c1⟩ := hcs m (by omega)
        obtain ⟨f, hf⟩ : ∃ f, f = ge L m := ⟨_, rfl⟩
        rw [← hf] at c0 c1
        have hlast : L.getLast? = some f := by
          rw [List.getLast?_eq_getElem?, hm, hf, ge_get L m (by omega), Nat.add_sub_cancel, List.getElem?_eq_getElem (by omega)]
        have hmk : mm = ⟨f, true⟩ := by rw [HMM.out, mk_end L 70 (by omega), hlast]
        have hbh : behindAll L xe = decide (lt f xe) := by unfold behindAll; rw [hlast]
        rw [hmk] at HM14
        have c0' : ∀ y : BW wb, y.w.cell? ⟨g, m * 2, none⟩ = some (.string f.key) := fun y => y.cell c0
        have c1' : ∀ y : BW wb, y.w.cell? ⟨g, m * 2 + 1, none⟩ = some (.int .i64 f.id) := fun y => y.cell c1
        have m0 : ∀ y : BW wb, y.w.cell? ⟨w5.heap.size, 0, none⟩ = some (.string f.key) := fun y => y.cell ((cell_of_row _ _ 0 _ _ _ HM14.out).trans rfl)
        have m1 : ∀ y : BW wb, y.w.cell? ⟨w5.heap.size, 1, none⟩ = some (.int .i64 f.id) := fun y => y.cell ((cell_of_row _ _ 1 _ _ _ HM14.out).trans rfl)
        have m2 : ∀ y : BW wb, y.w.cell? ⟨w5.heap.size, 2, none⟩ = some (.bool true) := fun y => y.cell ((cell_of_row _ _ 2 _ _ _ HM14.out).trans rfl)
        have l0 : ∀ y : BW wb, y.w.cell? ⟨w7.heap.size + 1, 0, none⟩ = some (.string ⟨#[122]⟩) := fun y => y.cell ((cell_of_row _ _ 0 _ _ _ HL14.out).trans rfl)
        have l1 : ∀ y : BW wb, y.w.cell? ⟨w7.heap.size + 1, 1, none⟩ = some (.int .i64 x.id) := fun y => y.cell ((cell_of_row _ _ 1 _ _ _ HL14.out).trans rfl)
        have HBEL : Hid (∀ y : BW wb, Calls Try.prog 22 #[.agg #[.string f.key, .int .i64 f.id], .agg #[.string xe.key, .int .i64 xe.id]] y.w fun e w'' => e = .returned (.bool (decide (lt f xe))) ∧ ∃ y' : BW wb, w'' = y'.w) := hid_mk fun y => (lawbelow_any f xe y.w).mono (by rintro e w' ⟨rfl, b⟩; exact ⟨rfl, y.step b⟩)
        obtain ⟨N, hN⟩ : ∃ N, N = L.length := ⟨_, rfl⟩
        rw [← hN] at hcu hL hpos hm
        rw [← hN]
        have hne0 : ((N : Int) == 0) = false := by simp; omega
        have hwM : IntKind.i64.wrap ((N : Int) - 1) = (m : Int) := by rw [IntKind.wrap_i64]; omega
        have hM0 : (0 : Int) ≤ (m : Int) := by omega
        have hM1 : (m : Int) < (N : Int) := by omega
        have HmN := hid_mk hm
        clear hA hcs c0 c1 hf hlast hmk hm hN HM14 HL14 HMM
        by_cases hlt : lt f xe
        · have hz : z = xe := HZ.out.trans (if_pos (by rw [hbh]; exact decide_eq_true hlt))
          subst hz
          have z0 : ∀ y : BW wb, y.w.cell? ⟨w13.heap.size, 0, none⟩ = some (.string z.key) := fun y => y.cell ((cell_of_row _ _ 0 _ _ _ HZ14.out).trans rfl)
          have z1 : ∀ y : BW wb, y.w.cell? ⟨w13.heap.size, 1, none⟩ = some (.int .i64 z.id) := fun y => y.cell ((cell_of_row _ _ 1 _ _ _ HZ14.out).trans rfl)
          rw [show decide (lt f z) = true from decide_eq_true hlt] at HBEL
          clear hbh HZ hlt
          refine wp_region_bw wb (by kernel_rfl) (by kernel_rfl) (Below.refl _ _) ?_
          repeat (go_big_quiet_step ((first | exact HENT.out _ | exact HBEL.out _)))
          refine wpQuiet_nil ?_
          rintro _ ⟨y, rfl⟩
          go_wp2_with fail
          refine wp_region_bw wb (by kernel_rfl) (by kernel_rfl) y.h ?_
          repeat (go_big_quiet_step ((first | exact HENT.out _)))
          refine wpQuiet_nil ?_
          rintro _ ⟨y2, rfl⟩
          go_wp2_with fail
          go_ret
          exact ⟨rfl, B14.trans (y2.h.mono B14.size)⟩
        · have hz : z = late x.id := HZ.out.trans (if_neg (by rw [hbh]; simpa using hlt))
          subst hz
          have z0 : ∀ y : BW wb, y.w.cell? ⟨w13.heap.size, 0, none⟩ = some (.string ⟨#[122]⟩) := fun y => y.cell ((cell_of_row _ _ 0 _ _ _ HZ14.out).trans rfl)
          have z1 : ∀ y : BW wb, y.w.cell? ⟨w13.heap.size, 1, none⟩ = some (.int .i64 x.id) := fun y => y.cell ((cell_of_row _ _ 1 _ _ _ HZ14.out).trans rfl)
          rw [show decide (lt f xe) = false from decide_eq_false hlt] at HBEL
          clear hbh HZ hlt
          refine wp_region_bw wb (by kernel_rfl) (by kernel_rfl) (Below.refl _ _) ?_
          repeat (go_big_quiet_step ((first | exact HENT.out _ | exact HBEL.out _)))
          refine wpQuiet_nil ?_
          rintro _ ⟨y, rfl⟩
          go_wp2_with fail
          refine wp_region_bw wb (by kernel_rfl) (by kernel_rfl) y.h ?_
          repeat (go_big_quiet_step (fail))
          refine wpQuiet_nil ?_
          rintro _ ⟨y2, rfl⟩
          go_wp2_with fail
          go_ret
          exact ⟨rfl, B14.trans (y2.h.mono B14.size)⟩

end Go.Proofs.Ytanomhjekdefeaa
