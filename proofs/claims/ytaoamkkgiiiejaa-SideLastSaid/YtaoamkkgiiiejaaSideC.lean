/- A table filled with deeds that came in; the document's examples. -/
import Derived.Test.YtaoamkkgiiiejaaSideB
import Derived.Test.YtaoamkkgiiiejaaTreeN
namespace Go.Proofs.Ytaoamkkgiiiejaa
open Go.RowKit
set_option linter.unusedVariables false
attribute [local go_sem ↓] Go.wp_at_zero Go.wp_at_succ

theorem Tree.base {B C p : Nat} {L : List E} {F : Nat → Prop} {w : World} (H : Tree C w p L F) (hB : B ≤ C) : Tree B w p L F := by
  obtain ⟨h, t, ω, H, h1, h2⟩ := H
  exact ⟨h, t, ω, ⟨H.blk, Nat.le_trans hB H.base, H.free, H.good, H.four, H.one, H.srt, H.tr, fun b a hb => by have := H.ok b a hb; omega⟩, h1, h2⟩
theorem Sd.base {B C p : Nat} {ds : List D} {F : Nat → Prop} {w : World} (H : Sd C w p ds F) (hB : B ≤ C) : Sd B w p ds F := by
  obtain ⟨v, ⟨h1, h2, h3⟩, hF⟩ := H
  exact ⟨v, ⟨h1, Nat.le_trans hB h2, h3.base hB⟩, hF⟩
theorem Pr.base {B C : Nat} {w : World} {p q : Nat} {ds : List D} {L : List E} {F : Nat → Prop} (H : Pr C w p q ds L F) (hB : B ≤ C) : Pr B w p q ds L F := by
  obtain ⟨F1, F2, h1, h2, h3, hF⟩ := H
  exact ⟨F1, F2, h1.base hB, h2.base hB, h3, hF⟩
theorem Pr.tree {B : Nat} {w : World} {p q : Nat} {ds : List D} {L : List E} {F : Nat → Prop} (H : Pr B w p q ds L F) : ∃ F2, Tree B w q L F2 := by
  obtain ⟨F1, F2, h1, h2, h3, hF⟩ := H
  exact ⟨F2, h2⟩
/-- A new table, then a new tree. -/
theorem Pr.fresh {w w1 w2 : World} {p q : Nat} {F1 F2 : Nat → Prop} (h1 : Sd w.heap.size w1 p [] F1) (b1 : Below w.heap.size w w1) (h2 : Tree w1.heap.size w2 q [] F2) (b2 : Below w1.heap.size w1 w2) : ∃ F, Pr w.heap.size w2 p q [] [] F :=
  ⟨_, F1, F2, h1.below b2, h2.base b1.size, fun k hk hf => by have h3 := (h1.foot k hk).2; have h4 := (h2.foot k hf).1; omega, rfl⟩

def dOf (x : A8) : D := ⟨decide (x.kind < 140), x.ent⟩
def dsOf (xs : List A8) (k : Nat) : List D := (xs.take k).map dOf
theorem dsOf_succ (xs : List A8) (k : Nat) (hk : k < xs.length) : dsOf xs (k + 1) = dsOf xs k ++ [dOf (a8 xs k)] := by
  unfold dsOf a8
  rw [List.take_succ_eq_append_getElem hk, List.map_append, List.getD_eq_getElem?_getD, List.getElem?_eq_getElem hk]; rfl
theorem dsOf_length (xs : List A8) (k : Nat) (hk : k ≤ xs.length) : (dsOf xs k).length = k := by
  unfold dsOf; rw [List.length_map, List.length_take]; omega

set_option maxHeartbeats 4000000 in
set_option maxRecDepth 100000 in
theorem filled_any (A : Option Addr) (n cap : Nat) (xs : List A8) (w : World) (hin : InA8 w A n cap xs) :
    Calls Try.prog 10 #[.slice A n cap] w fun r w' => ∃ p q F, r = .returned (.tuple #[.pointer (some ⟨p, 0, none⟩), .pointer (some ⟨q, 0, none⟩)]) ∧ Pr w.heap.size w' p q (dsOf xs (Nat.min n 80)) [] F ∧ Below w.heap.size w w' := by
  obtain ⟨hxl, hnc, hcap, hoks, hA⟩ := hin
  obtain ⟨m, hmn, hm80, hmm, hmin⟩ := min_fact Try.prog n 80 (by omega)
  have HM : Hid (Nat.min n 80 = m) := hid_mk (by
    rcases hmm with h | h
    · rw [h]; exact Nat.min_eq_left (by omega)
    · rw [show m = 80 by omega]; exact Nat.min_eq_right (by omega))
  have hmc : m ≤ cap := by omega
  have HOKS := hid_mk hoks
  have HA := hid_mk hA
  have HXL := hid_mk hxl
  clear hoks hA hxl hmm
  go_enter Try.func10, Try.ntmps10
  go_wp2_with fail
  refine (snew_any _).mono ?_
  rintro r w1 ⟨p, F1, rfl, S1, b1⟩
  go_wp2_with fail
  refine (new_any _).mono ?_
  rintro r w2 ⟨q, F2, rfl, T2, b2⟩
  obtain ⟨F0, P0⟩ := Pr.fresh S1 b1 T2 b2
  have HP0 : Hid (Pr w.heap.size w2 p q (dsOf xs 0) [] F0) := hid_mk P0
  have hb2 := bthen b1 b2
  clear S1 T2 P0 b1 b2
  go_wp2_with fail
  clear hmin
  go_loopw [22] (fun iv wr => ∃ (k : Nat) (F : Nat → Prop), iv = .int .i64 k ∧ k ≤ m ∧ Hid (Pr w.heap.size wr p q (dsOf xs k) [] F) ∧ Below w.heap.size w wr) (fun iv _ => m - (intOf iv).toNat)
  case atStart => exact ⟨0, F0, rfl, Nat.zero_le _, HP0, hb2⟩
  case round =>
    clear HP0 hb2
    obtain ⟨k, F, rfl, hk, HP, hb⟩ := hrel
    by_cases hlt : k < m
    · obtain ⟨b, off, rfl, hbw, hcs⟩ := HA.out (by omega)
      obtain ⟨c0, c1, c2⟩ := hcs k (by omega)
      obtain ⟨x, hx⟩ : ∃ x, x = a8 xs k := ⟨_, rfl⟩
      rw [← hx] at c0 c1 c2
      have c0' := keep_cell hb c0
      have c1' := keep_cell hb c1
      have c2' := keep_cell hb c2
      have HO := hid_mk (HOKS.out k (by omega))
      have HN := hid_mk (dsOf_succ xs k (by have := HXL.out; omega))
      rw [← hx] at HO HN
      have hlen := dsOf_length xs k (by have := HXL.out; omega)
      have hl100 : (dsOf xs k).length < 100000 := by omega
      have bb : Below wr.heap.size wr (wr.alloc (.cells #[.int .u8 x.kind, .int .u8 x.key, .int .u8 x.id] 33)).drew := pw_below (n := 1) (balloc _)
      have PD := hid_mk (HP.out.below bb)
      have hbD := hb.trans (bb.mono hb.size)
      have HFN : Hid (¬ F wr.heap.size) := hid_mk fun h9 => by have := (HP.out.foot _ h9).2; omega
      have Y := heap_alloc_new wr (.cells #[.int .u8 x.kind, .int .u8 x.key, .int .u8 x.id] 33)
      have y0 : (wr.alloc (.cells #[.int .u8 x.kind, .int .u8 x.key, .int .u8 x.id] 33)).drew.cell? ⟨wr.heap.size, 0, none⟩ = some (.int .u8 x.kind) := (cell_of_row _ _ 0 _ _ _ Y).trans rfl
      have y1 : (wr.alloc (.cells #[.int .u8 x.kind, .int .u8 x.key, .int .u8 x.id] 33)).drew.cell? ⟨wr.heap.size, 1, none⟩ = some (.int .u8 x.key) := (cell_of_row _ _ 1 _ _ _ Y).trans rfl
      have y2 : (wr.alloc (.cells #[.int .u8 x.kind, .int .u8 x.key, .int .u8 x.id] 33)).drew.cell? ⟨wr.heap.size, 2, none⟩ = some (.int .u8 x.id) := (cell_of_row _ _ 2 _ _ _ Y).trans rfl
      clear hcs c0 c1 c2 hx hlen bb Y HP hb
      go_wp2_with fail
      go_region_held3 (fun w' => w'.cell? ⟨wr.heap.size, 0, none⟩ = some (.int .u8 x.kind) ∧ w'.cell? ⟨wr.heap.size, 1, none⟩ = some (.int .u8 x.key) ∧ w'.cell? ⟨wr.heap.size, 2, none⟩ = some (.int .u8 x.id))
        ((first | go_keep | exact ⟨K0, K1, K2⟩ | exact ⟨J0, J1, J2⟩))
        ((first
          | (go_at_call 14; refine (entry_any x _ HO.out).mono ?_; rintro r w4 ⟨rfl, b4⟩; have P4 := hid_mk (PD.out.below b4); have hb4 := hbD.trans (b4.mono hbD.size); have K0 := keep_cell b4 y0; have K1 := keep_cell b4 y1; have K2 := keep_cell b4 y2)
          | (go_at_call 22; refine (prput_any w.heap.size p q (dsOf xs k) [] F _ x.ent _ P4.out hl100).mono ?_; rintro r w5 ⟨rfl, F5, P5, m5⟩; have J0 := m5.cell K0 (fun h9 => HFN.out h9); have J1 := m5.cell K1 (fun h9 => HFN.out h9); have J2 := m5.cell K2 (fun h9 => HFN.out h9))))
      have hb5 := hb4.trans (P4.out.moved m5)
      have HP5 : Hid (Pr w.heap.size w5 p q (dsOf xs (k + 1)) [] F5) := hid_mk (by rw [HN.out]; exact P5)
      clear J0 J1 J2 K0 K1 K2 P5 m5 P4 PD hbD hb4 y0 y1 y2 c0' c1' c2' b4
      go_wp2_with fail
      exact ⟨⟨k + 1, F5, by go_num, by omega, HP5, hb5⟩, by simp [intOf]; omega⟩
    · obtain rfl : k = m := by omega
      go_wp2_with fail
      go_ret2
      exact ⟨p, q, F, rfl, by rw [HM.out]; exact HP.out, hb⟩

theorem one_e (e : E) : dids [] (([⟨true, e⟩, ⟨false, e⟩] : List D).take (Nat.min (1 : Int).toNat 2)) = [e] ∧ dids [e] (([⟨false, e⟩] : List D).take (Nat.min (5 : Int).toNat 1)) = [] := by
  constructor
  · show add e [] = [e]
    simp [add, ins, below, above]
  · show del e [e] = []
    simp [del, below, above, lt_irrefl]

set_option maxHeartbeats 4000000 in
set_option maxRecDepth 100000 in
theorem sawake_any (w : World) : Calls Try.prog 9 #[] w fun r w' => r = .returned (.bool true) ∧ Below w.heap.size w w' := by
  go_enter Try.func9, Try.ntmps9
  go_wp2_with fail
  refine (snew_any _).mono ?_
  rintro r w1 ⟨p, F1, rfl, S1, b1⟩
  go_wp2_with fail
  refine (new_any _).mono ?_
  rintro r w2 ⟨q, F2, rfl, T2, b2⟩
  obtain ⟨F0, P0⟩ := Pr.fresh S1 b1 T2 b2
  have hb2 := bthen b1 b2
  obtain ⟨e, he⟩ : ∃ e : E, e = ⟨⟨#[97]⟩, 1⟩ := ⟨_, rfl⟩
  have b3 : Below w2.heap.size w2 (w2.alloc (.cells #[.string ⟨#[97]⟩, .int .i64 1] 36)) := balloc _
  have HP3 := hid_mk (P0.below b3)
  have hb3 := hb2.trans (b3.mono hb2.size)
  have Y3 := hid_mk (heap_alloc_new w2 (.cells #[.string ⟨#[97]⟩, .int .i64 1] 36))
  have HF0 : Hid (¬ F0 w2.heap.size) := hid_mk fun h9 => by have := (P0.foot _ h9).2; omega
  have hw2 : w.heap.size ≤ w2.heap.size := hb2.size
  obtain ⟨O1, O2⟩ := one_e ⟨⟨#[97]⟩, 1⟩
  have HO1 := hid_mk O1
  have HO2 := hid_mk O2
  clear S1 T2 P0 b1 b2 b3 hb2 he O1 O2
  go_wp2_with fail
  refine (prput_any w.heap.size p q [] [] F0 true ⟨⟨#[97]⟩, 1⟩ _ HP3.out (by simp)).mono ?_
  rintro r w4 ⟨rfl, F4, P4, m4⟩
  have hb4 := hb3.trans (HP3.out.moved m4)
  have Y4 := hid_mk (m4.at_ Y3.out HF0.out)
  have HF4 : Hid (¬ F4 w2.heap.size) := hid_mk fun h9 => by
    rcases m4.new _ h9 with h8 | h8
    · exact HF0.out h8
    · have := lt_of_block Y3.out; omega
  have HP4 := hid_mk P4
  have y0 := (cell_of_row w4 _ 0 _ _ _ Y4.out).trans rfl
  have y1 := (cell_of_row w4 _ 1 _ _ _ Y4.out).trans rfl
  clear P4 m4 HP3 Y3 HF0 hb3
  go_wp2_with fail
  refine (prput_any w.heap.size p q _ [] F4 false ⟨⟨#[97]⟩, 1⟩ _ HP4.out (by simp)).mono ?_
  rintro r w5 ⟨rfl, F5, P5, m5⟩
  have hb5 := hb4.trans (HP4.out.moved m5)
  have Y5 := hid_mk (m5.at_ Y4.out HF4.out)
  have HF5 : Hid (¬ F5 w2.heap.size) := hid_mk fun h9 => by
    rcases m5.new _ h9 with h8 | h8
    · exact HF4.out h8
    · have := lt_of_block Y4.out; omega
  have HP5 := hid_mk P5
  clear P5 m5 HP4 Y4 HF4 hb4 y0 y1
  go_wp2_with fail
  refine (drain_any w.heap.size p q _ [] F5 1 _ HP5.out (by simp) (by simp)).mono ?_
  rintro r w6 ⟨rfl, F6, P6, m6⟩
  have hb6 := hb5.trans (HP5.out.moved m6)
  have Y6 := hid_mk (m6.at_ Y5.out HF5.out)
  have HF6 : Hid (¬ F6 w2.heap.size) := hid_mk fun h9 => by
    rcases m6.new _ h9 with h8 | h8
    · exact HF5.out h8
    · have := lt_of_block Y5.out; omega
  have HP6 : Hid (Pr w.heap.size w6 p q [⟨false, ⟨⟨#[97]⟩, 1⟩⟩] [⟨⟨#[97]⟩, 1⟩] F6) := hid_mk (by
    have h9 := P6
    simp only [List.nil_append, List.cons_append, List.length_cons, List.length_nil, Nat.zero_add] at h9
    rw [HO1.out] at h9
    exact h9)
  have hn6 : (Nat.min (1 : Int).toNat ([] ++ [(⟨true, (⟨⟨#[97]⟩, 1⟩ : E)⟩ : D)] ++ [(⟨false, (⟨⟨#[97]⟩, 1⟩ : E)⟩ : D)]).length : Nat) = 1 := rfl
  rw [hn6]
  have y0 := (cell_of_row w6 _ 0 _ _ _ Y6.out).trans rfl
  have y1 := (cell_of_row w6 _ 1 _ _ _ Y6.out).trans rfl
  clear P6 m6 HP5 Y5 HF5 hb5 hn6
  obtain ⟨F2', T6⟩ := HP6.out.tree
  have HT6 := hid_mk T6
  clear T6
  go_wp2_with fail
  refine (has_any w.heap.size q _ F2' ⟨⟨#[97]⟩, 1⟩ _ HT6.out).mono ?_
  rintro r w7 ⟨rfl, b7⟩
  have hd7 : decide ((⟨⟨#[97]⟩, 1⟩ : E) ∈ ([⟨⟨#[97]⟩, 1⟩] : List E)) = true := by simp
  rw [hd7]
  have HP7 := hid_mk (HP6.out.below b7)
  have Y7 := hid_mk (below_block b7 (lt_of_block Y6.out) Y6.out)
  have hb7 := hb6.trans (b7.mono hb6.size)
  clear b7 HT6 HP6 Y6 hb6 y0 y1 hd7
  go_wp2_with fail
  refine (prlen_any w.heap.size p q _ _ F6 _ HP7.out).mono ?_
  rintro r w7' ⟨rfl, rfl⟩
  go_wp2_with fail
  refine (drain_any w.heap.size p q _ _ F6 5 _ HP7.out (by simp) (by simp)).mono ?_
  rintro r w8 ⟨rfl, F8, P8, m8⟩
  have hb8 := hb7.trans (HP7.out.moved m8)
  have Y8 := hid_mk (m8.at_ Y7.out HF6.out)
  have HP8 : Hid (Pr w.heap.size w8 p q [] [] F8) := hid_mk (by
    have h9 := P8
    simp only [List.length_cons, List.length_nil, Nat.zero_add] at h9
    rw [HO2.out] at h9
    exact h9)
  have hn8 : (Nat.min (5 : Int).toNat ([(⟨false, (⟨⟨#[97]⟩, 1⟩ : E)⟩ : D)] : List D).length : Nat) = 1 := rfl
  rw [hn8]
  have y0 := (cell_of_row w8 _ 0 _ _ _ Y8.out).trans rfl
  have y1 := (cell_of_row w8 _ 1 _ _ _ Y8.out).trans rfl
  obtain ⟨F2'', T8⟩ := HP8.out.tree
  have HT8 := hid_mk T8
  clear P8 m8 HP7 Y7 HF6 hb7 hn8 T8
  go_wp2_with fail
  refine (has_any w.heap.size q _ F2'' ⟨⟨#[97]⟩, 1⟩ _ HT8.out).mono ?_
  rintro r w9 ⟨rfl, b9⟩
  have hd9 : decide ((⟨⟨#[97]⟩, 1⟩ : E) ∈ ([] : List E)) = false := by simp
  rw [hd9]
  have hb9 := hb8.trans (b9.mono hb8.size)
  go_wp2_with fail
  go_ret
  exact ⟨rfl, hb9⟩

end Go.Proofs.Ytaoamkkgiiiejaa
