/- A table's deeds done to a tree; a table of deeds that came in. -/
import Derived.Test.YtaoamkkgiiiejaaSideA
import Derived.Test.YtaoamkkgiiiejaaTreeAct
namespace Go.Proofs.Ytaoamkkgiiiejaa
open Go.RowKit
set_option linter.unusedVariables false
attribute [local go_sem ↓] Go.wp_at_zero Go.wp_at_succ

theorem maxmin_fact (P : Program) (a : Int) (n : Nat) : ∃ m M : Nat, m = Nat.min a.toNat n ∧ (∀ ats ty W, (Builtin.max_ ats ty #[.int .i64 a, .int .i64 0]).run P W = .ok (.int .i64 (M : Int)) W) ∧ (∀ ats ty W, (Builtin.min_ ats ty #[.int .i64 (M : Int), .int .i64 (n : Int)]).run P W = .ok (.int .i64 (m : Int)) W) := by
  refine ⟨Nat.min a.toNat n, a.toNat, rfl, fun ats ty W => ?_, fun ats ty W => ?_⟩
  · have h : (Builtin.max_ ats ty #[.int .i64 a, .int .i64 0]).run P W = .ok (.int .i64 (if (0 : Int) > a then 0 else a)) W := by
      simp only [Builtin.max_, List.foldlM_cons, List.foldlM_nil, Builtin.max2]
      rfl
    rw [h]
    by_cases h0 : (0 : Int) > a
    · rw [if_pos h0, show ((a.toNat : Nat) : Int) = 0 by omega]
    · rw [if_neg h0, show ((a.toNat : Nat) : Int) = a by omega]
  · have h : (Builtin.min_ ats ty #[.int .i64 ((a.toNat : Nat) : Int), .int .i64 (n : Int)]).run P W = .ok (.int .i64 (if (n : Int) < ((a.toNat : Nat) : Int) then (n : Int) else ((a.toNat : Nat) : Int))) W := by
      simp only [Builtin.min_, List.foldlM_cons, List.foldlM_nil, Builtin.min2]
      rfl
    rw [h]
    by_cases h0 : (n : Int) < ((a.toNat : Nat) : Int)
    · rw [if_pos h0, show Nat.min a.toNat n = n from Nat.min_eq_right (by omega)]
    · rw [if_neg h0, show Nat.min a.toNat n = a.toNat from Nat.min_eq_left (by omega)]

/-- A table and a tree beside it. -/
def Pr (B : Nat) (w : World) (p q : Nat) (ds : List D) (L : List E) (F : Nat → Prop) : Prop :=
  ∃ F1 F2, Sd B w p ds F1 ∧ Tree B w q L F2 ∧ (∀ k, F1 k → ¬ F2 k) ∧ F = fun k => F1 k ∨ F2 k
theorem Pr.foot {B : Nat} {w : World} {p q : Nat} {ds : List D} {L : List E} {F : Nat → Prop} (H : Pr B w p q ds L F) (k : Nat) (hk : F k) : B ≤ k ∧ k < w.heap.size := by
  obtain ⟨F1, F2, h1, h2, _, rfl⟩ := H
  rcases hk with hk | hk
  · exact h1.foot k hk
  · exact h2.foot k hk
theorem Pr.below {B : Nat} {w w' : World} {p q : Nat} {ds : List D} {L : List E} {F : Nat → Prop} (H : Pr B w p q ds L F) (hb : Below w.heap.size w w') : Pr B w' p q ds L F := by
  obtain ⟨F1, F2, h1, h2, h3, rfl⟩ := H
  exact ⟨F1, F2, h1.below hb, h2.below hb, h3, rfl⟩
theorem Pr.other {B : Nat} {w w' : World} {p q : Nat} {ds : List D} {L : List E} {F G G' : Nat → Prop} (H : Pr B w p q ds L F) (hm : Mv G G' w w') (ha : ∀ k, F k → ¬ G k) : Pr B w' p q ds L F := by
  obtain ⟨F1, F2, h1, h2, h3, rfl⟩ := H
  exact ⟨F1, F2, h1.other hm fun k hk => ha k (.inl hk), h2.other hm fun k hk => ha k (.inr hk), h3, rfl⟩
theorem Pr.size {B : Nat} {w : World} {p q : Nat} {ds : List D} {L : List E} {F : Nat → Prop} (H : Pr B w p q ds L F) : B ≤ w.heap.size := by
  obtain ⟨F1, F2, h1, h2, h3, rfl⟩ := H
  exact h2.size.1
theorem Pr.moved {B : Nat} {w w' : World} {p q : Nat} {ds : List D} {L : List E} {F F' : Nat → Prop} (H : Pr B w p q ds L F) (hm : Mv F F' w w') : Below B w w' := hm.below (fun k hk => (H.foot k hk).1) H.size
theorem Pr.srt {B : Nat} {w : World} {p q : Nat} {ds : List D} {L : List E} {F : Nat → Prop} (H : Pr B w p q ds L F) : Srt L := by
  obtain ⟨F1, F2, h1, h2, h3, rfl⟩ := H
  exact h2.srt
/-- Two things apart stay so when one of them has moved. -/
theorem apart_step {F G G' : Nat → Prop} {w w' : World} (ha : ∀ k, F k → ¬ G k) (hF : ∀ k, F k → k < w.heap.size) (hm : Mv G G' w w') : ∀ k, F k → ¬ G' k := fun k hk hg => by
  rcases hm.new k hg with h1 | h1
  · exact ha k hk h1
  · have := hF k hk; omega

theorem prput_any (B p q : Nat) (ds : List D) (L : List E) (F : Nat → Prop) (b : Bool) (e : E) (w : World) (H : Pr B w p q ds L F) (hl : ds.length < 100000) :
    Calls Try.prog 22 #[.pointer (some ⟨p, 0, none⟩), .bool b, .agg #[.string e.key, .int .i64 e.id]] w fun r w' => r = .returned (.tuple #[]) ∧ ∃ F', Pr B w' p q (ds ++ [⟨b, e⟩]) L F' ∧ Mv F F' w w' := by
  have hB := H.size
  obtain ⟨F1, F2, h1, h2, h3, rfl⟩ := H
  refine (put_any B p ds F1 b e w h1 hB hl).mono ?_
  rintro r w' ⟨rfl, F1', h1', m⟩
  have h4 := apart_step (fun k hk hf => h3 k hf hk) (fun k hk => (h2.foot k hk).2) m
  refine ⟨rfl, _, ⟨F1', F2, h1', h2.other m fun k hk hf => h3 k hf hk, fun k hk hf => h4 k hf hk, rfl⟩, m.wider (fun k hk => .inl hk) fun k hk => ?_⟩
  rcases hk with hk | hk
  · exact .inl hk
  · exact .inr (.inr hk)
theorem prlen_any (B p q : Nat) (ds : List D) (L : List E) (F : Nat → Prop) (w : World) (H : Pr B w p q ds L F) :
    Calls Try.prog 12 #[.pointer (some ⟨p, 0, none⟩)] w fun r w' => r = .returned (.int .i64 (ds.length : Nat)) ∧ w = w' := by
  obtain ⟨F1, F2, h1, h2, h3, rfl⟩ := H
  exact slen_any B p ds F1 w h1

set_option maxHeartbeats 4000000 in
set_option maxRecDepth 100000 in
theorem drain_any (B p q : Nat) (ds : List D) (L : List E) (F : Nat → Prop) (most : Int) (w : World) (H : Pr B w p q ds L F) (hl : ds.length < 100000) (hL : L.length < 100000) :
    Calls Try.prog 11 #[.pointer (some ⟨p, 0, none⟩), .pointer (some ⟨q, 0, none⟩), .int .i64 most] w fun r w' => r = .returned (.int .i64 (Nat.min most.toNat ds.length : Nat)) ∧
      ∃ F', Pr B w' p q (ds.drop (Nat.min most.toNat ds.length)) (dids L (ds.take (Nat.min most.toNat ds.length))) F' ∧ Mv F F' w w' := by
  have HS := hid_mk H.srt
  have hB := H.size
  obtain ⟨F1, G, h1, hT, hdis, rfl⟩ := H
  obtain ⟨m, M, hm, hmax, hmin⟩ := maxmin_fact Try.prog most ds.length
  rw [← hm]
  have hmn : m ≤ ds.length := by rw [hm]; exact Nat.min_le_right _ _
  clear hm
  obtain ⟨v, ⟨hp1, hp2, hp3⟩, rfl⟩ := h1
  obtain ⟨A, cap, rfl, hc, hcm, hA0, hA⟩ := hp3.shape
  have c0 := (cell_of_row w p 0 _ _ _ hp1).trans rfl
  have hmc : m ≤ cap := by omega
  have HP1 := hid_mk hp1
  have HP3 := hid_mk hp3
  have HA := hid_mk hA
  have HA0 := hid_mk hA0
  have HDIS := hid_mk hdis
  have HTT := hid_mk hT
  have T0 : Hid (Tree B w q (dids L (ds.take 0)) G) := hid_mk hT
  have HGB : Hid (∀ k, G k → B ≤ k) := hid_mk fun k hk => (hT.foot k hk).1
  clear hp1 hp3 hA hA0 hdis hT
  go_enter Try.func11, Try.ntmps11
  go_wp2_with fail
  clear hmax hmin
  go_loopw [25] (fun iv wr => ∃ (k : Nat) (G' : Nat → Prop), iv = .int .i64 k ∧ k ≤ m ∧ Hid (Tree B wr q (dids L (ds.take k)) G') ∧ Hid (Mv G G' w wr)) (fun iv _ => m - (intOf iv).toNat)
  case atStart => exact ⟨0, G, rfl, Nat.zero_le _, T0, Mv.refl _ _⟩
  case round =>
    clear T0
    obtain ⟨k, G', rfl, hk, T, HM⟩ := hrel
    by_cases hlt : k < m
    · rcases A with _ | A
      · have := (HA0.out rfl).1; omega
      obtain ⟨g, off, rfl, _, hg, hcell⟩ := HA.out _ rfl
      obtain ⟨d0, d1, d2⟩ := dcells_get ds k (by omega)
      have hgG : ¬ G g := HDIS.out g (.inr rfl)
      have e0 := HM.out.cell (hcell _ _ d0) hgG
      have e1 := HM.out.cell (hcell _ _ d1) hgG
      have e2 := HM.out.cell (hcell _ _ d2) hgG
      obtain ⟨d, hd⟩ : ∃ d, d = gd ds k := ⟨_, rfl⟩
      have HN := hid_mk (dids_take L ds k (by omega))
      rw [← hd] at e0 e1 e2 HN
      rw [← Nat.add_assoc] at e1 e2
      have HSK := hid_mk (srt_dids (ds.take k) HS.out)
      have hle := dids_le (ds.take k) HS.out
      have hle2 : (dids L (ds.take k)).length < 1000000000 := by rw [List.length_take] at hle; omega
      have bb : Below wr.heap.size wr (wr.alloc (.cells #[.bool d.add, .string d.e.key, .int .i64 d.e.id] 55)) := balloc _
      have T1 := hid_mk (T.out.below bb)
      have M1 := hid_mk (HM.out.trans (Mv.of_below (F := G') bb))
      obtain ⟨db, de⟩ := d
      clear hcell d0 d1 d2 hd hle bb T HM
      cases db with
      | true =>
        go_wp2_with fail
        refine (tadd_any B q _ G' de _ T1.out (by omega)).mono ?_
        rintro r w5 ⟨rfl, G2, T5, m5⟩
        have HT5 : Hid (Tree B w5 q (dids L (ds.take (k + 1))) G2) := hid_mk (by rw [HN.out]; exact T5)
        have HM5 := hid_mk (M1.out.trans m5)
        clear T5 m5 T1 M1 e0 e1 e2
        go_wp2_with fail
        exact ⟨⟨k + 1, G2, by go_num, by omega, HT5, HM5⟩, by simp [intOf]; omega⟩
      | false =>
        go_wp2_with fail
        refine (tdel_any B q _ G' de _ T1.out (by omega)).mono ?_
        rintro r w5 ⟨rfl, G2, T5, m5⟩
        have HT5 : Hid (Tree B w5 q (dids L (ds.take (k + 1))) G2) := hid_mk (by rw [HN.out]; exact T5)
        have HM5 := hid_mk (M1.out.trans m5)
        clear T5 m5 T1 M1 e0 e1 e2
        go_wp2_with fail
        exact ⟨⟨k + 1, G2, by go_num, by omega, HT5, HM5⟩, by simp [intOf]; omega⟩
    · obtain rfl : k = m := by omega
      have hpG : ¬ G p := HDIS.out p (.inl rfl)
      have Z := HM.out.at_ HP1.out hpG
      have z0 := (cell_of_row wr p 0 _ _ _ Z).trans rfl
      have zf : wr.frozen? ⟨p, 0, none⟩ = false := by simp [World.frozen?, Z]
      have R : Of B wr 55 3 (.slice A ds.length cap) ds.length (dcells ds) := HM.out.of_ HP3.out fun j hj hf => HDIS.out j (.inr hj) hf
      have HG' := apart_step (w := w) (w' := wr) HDIS.out (fun j hj => by rcases hj with rfl | hj; exact lt_of_block HP1.out; exact (HP3.out.lt j hj).2) HM.out
      have hne : (Value.slice A ds.length cap).ownBlock ≠ some p := R.ne Z (by decide)
      have hkc : (k : Int) ≤ (ds.length : Int) := by omega
      have hkcap : (k : Int) ≤ (cap : Int) := by omega
      have hk0 : (0 : Int) ≤ (k : Int) := by omega
      have fin : ∀ A' : Option Addr, Of B wr 55 3 (.slice A' (ds.length - k) (cap - k)) (ds.length - k) ((dcells ds).drop (k * 3)) → (∀ j, own (.slice A' (ds.length - k) (cap - k)) j ↔ own (.slice A ds.length cap) j) →
          ∃ F', Pr B (wr.setCell ⟨p, 0, none⟩ (.slice A' (ds.length - k) (cap - k))) p q (ds.drop k) (dids L (ds.take k)) F' ∧ Mv (fun j => SdF p (.slice A ds.length cap) j ∨ G j) F' w (wr.setCell ⟨p, 0, none⟩ (.slice A' (ds.length - k) (cap - k))) := by
        intro A' hof ho
        have Z' := block_setCell Z 0 (.slice A' (ds.length - k) (cap - k)) (by simp)
        have hne' : (Value.slice A' (ds.length - k) (cap - k)).ownBlock ≠ some p := fun h9 => hne ((ho p).1 h9)
        refine ⟨_, ⟨SdF p (.slice A' (ds.length - k) (cap - k)), G', ⟨_, ⟨Z', hp2, ?_⟩, rfl⟩, ?_, ?_, rfl⟩, ?_⟩
        · rw [List.length_drop, ← dcells_drop]
          exact hof.stays fun j hj => heap_setCell_other wr _ j _ fun e9 => hne' (by rw [hj, e9])
        · exact tree_cell T.out (HG' p (.inl rfl)) 0 _
        · intro j hj hg
          rcases hj with rfl | hj
          · exact HG' _ (.inl rfl) hg
          · exact HG' j (.inr ((ho j).1 hj)) hg
        · refine ⟨HM.out.os, HM.out.tape, HM.out.output, by simpa using HM.out.size, fun j hj hc => ?_, fun j hj => ?_⟩
          · exact (heap_setCell_other wr _ j _ fun e9 => hc (.inl (.inl e9))).trans (HM.out.block j hj fun h9 => hc (.inr h9))
          · rcases hj with (rfl | hj) | hj
            · exact .inl (.inl (.inl rfl))
            · exact .inl (.inl (.inr ((ho j).1 hj)))
            · exact (HM.out.new j hj).imp .inr id
      have FIN := hid_mk fin
      rcases A with _ | A
      · obtain ⟨hd0, hc0, _⟩ := HA0.out rfl
        have hk9 : k = 0 := by omega
        have HK9 := hid_mk hk9
        have HR : Hid (∃ F', Pr B (wr.setCell ⟨p, 0, none⟩ (.slice none 0 0)) p q (ds.drop k) (dids L (ds.take k)) F' ∧ Mv (fun j => SdF p (.slice none ds.length cap) j ∨ G j) F' w (wr.setCell ⟨p, 0, none⟩ (.slice none 0 0))) := by
          have h9 := FIN.out none ⟨by rw [List.length_drop, dcells_length, Nat.sub_mul], .inl ⟨by rw [hd0, hc0]; simp, by omega⟩⟩ (fun j => Iff.rfl)
          rw [show ds.length - k = 0 by omega, show cap - k = 0 by omega] at h9
          exact hid_mk h9
        rw [hd0] at z0 ⊢
        rw [hc0] at z0 ⊢
        rw [hk9]
        clear fin FIN HA HA0 R hne hk9
        go_wp2_with fail
        go_ret
        refine ⟨?_, HR.out⟩
        show Ending.returned (.int .i64 ((0 : Nat) : Int)) = _
        rw [HK9.out]
      · obtain ⟨g, off, rfl, hBg, hg, hcell⟩ := HA.out _ rfl
        obtain ⟨A', hA', HA'⟩ : ∃ A' : Addr, (if cap = k then (some ⟨g, off, none⟩ : Option Addr) else some ⟨g, off + k * 3, none⟩) = some A' ∧ Hid (A' = if cap = k then ⟨g, off, none⟩ else ⟨g, off + k * 3, none⟩) := by
          by_cases hc9 : cap = k
          · exact ⟨_, by rw [if_pos hc9], hid_mk (by rw [if_pos hc9])⟩
          · exact ⟨_, by rw [if_neg hc9], hid_mk (by rw [if_neg hc9])⟩
        have HR := hid_mk (FIN.out (some A') (R.drop_ k hmn A' HA'.out) (fun j => by
          rw [HA'.out]
          by_cases hc9 : cap = k
          · rw [if_pos hc9]; exact Iff.rfl
          · rw [if_neg hc9]; exact Iff.rfl))
        clear fin FIN HA HA0 R hne hcell
        go_wp2_with fail
        go_ret
        exact ⟨rfl, HR.out⟩

end Go.Proofs.Ytaoamkkgiiiejaa
