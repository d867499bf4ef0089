/- A tree behind deeds, and its entries in order. Printed by genlaid.py. -/
import Derived.Test.YtanomhjekdefeaaWalkG
import Derived.Test.YtanomhjekdefeaaTreeZb
import Derived.Test.YtanomhjekdefeaaTreeLe
import Derived.Test.YtanomhjekdefeaaTreeAct
namespace Go.Proofs.Ytanomhjekdefeaa
open Go.RowKit
set_option linter.unusedVariables false
attribute [local go_sem ↓] Go.wp_at_zero Go.wp_at_succ

theorem InA8.below {w w' : World} {A : Option Addr} {n cap : Nat} {xs : List A8} (h : InA8 w A n cap xs) (hb : Below w.heap.size w w') : InA8 w' A n cap xs := by
  obtain ⟨h1, h2, h3, h4, h5⟩ := h
  refine ⟨h1, h2, h3, h4, fun h0 => ?_⟩
  obtain ⟨b, off, rfl, hlt, hc⟩ := h5 h0
  refine ⟨b, off, rfl, Nat.lt_of_lt_of_le hlt hb.size, fun i hi => ?_⟩
  obtain ⟨c0, c1, c2⟩ := hc i hi
  exact ⟨keep_cell hb c0, keep_cell hb c1, keep_cell hb c2⟩
/-- Entries of deeds that came in. -/
def EntL (L : List E) : Prop := ∀ x ∈ L, ∃ a : A8, a.ok ∧ x = a.ent
theorem EntL.low {L : List E} (h : EntL L) : Low L := fun x hx => by
  obtain ⟨a, ⟨_, _, h0, _⟩, rfl⟩ := h x hx
  show -9223372036854775808 ≤ a.id % 24 - 3
  have := Int.emod_nonneg a.id (b := 24) (by omega)
  omega
theorem mem_addE {e x : E} {L : List E} (h : x ∈ add e L) : x = e ∨ x ∈ L := by
  unfold add at h
  split at h
  · exact .inr h
  · unfold ins at h
    rcases List.mem_append.1 h with h | h
    · exact .inr (mem_below.1 h).1
    · rcases List.mem_cons.1 h with h | h
      · exact .inl h
      · exact .inr (mem_above.1 h).1
theorem mem_delE {e x : E} {L : List E} (h : x ∈ del e L) : x ∈ L := by
  unfold del at h
  rcases List.mem_append.1 h with h | h
  · exact (mem_below.1 h).1
  · exact (mem_above.1 h).1
theorem EntL.add {L : List E} (h : EntL L) {a : A8} (ha : a.ok) : EntL (add a.ent L) := fun x hx => by
  rcases mem_addE hx with rfl | hx
  · exact ⟨a, ha, rfl⟩
  · exact h x hx
theorem EntL.del {L : List E} (h : EntL L) (e : E) : EntL (del e L) := fun x hx => h x (mem_delE hx)
theorem Tree.base {B C p : Nat} {L : List E} {F : Nat → Prop} {w : World} (H : Tree C w p L F) (hB : B ≤ C) : Tree B w p L F := by
  obtain ⟨h, t, ω, H, h1, h2⟩ := H
  exact ⟨h, t, ω, ⟨H.blk, Nat.le_trans hB H.base, H.free, H.good, H.four, H.one, H.srt, H.tr, fun b a hb => by have := H.ok b a hb; omega⟩, h1, h2⟩

set_option maxHeartbeats 4000000 in
set_option maxRecDepth 100000 in
theorem laid_any (A : Option Addr) (n cap : Nat) (xs : List A8) (w : World) (hin : InA8 w A n cap xs) :
    Calls Try.prog 10 #[.slice A n cap] w fun r w' => ∃ p u L F, r = .returned (.tuple #[.pointer (some ⟨p, 0, none⟩), u]) ∧ Tree w.heap.size w' p L F ∧ Rw w.heap.size w' 34 2 u L.length (ecells L) ∧ Apart u F ∧ L.length ≤ 60 ∧ EntL L ∧ Below w.heap.size w w' := by
  obtain ⟨hxl, hnc, hcap, hoks, hA⟩ := hin
  obtain ⟨m, hmn, hm60, hmm, hmin⟩ := min_fact Try.prog n 60 (by omega)
  have hm60' : m ≤ 60 := by omega
  have hmc : m ≤ cap := by omega
  have HOKS := hid_mk hoks
  have HA := hid_mk hA
  clear hoks hA hxl hmm
  go_enter Try.func10, Try.ntmps10
  go_wp2_with fail
  refine (new_any _).mono ?_
  rintro r w2 ⟨p, F0, rfl, T2, b2⟩
  have HT2 := hid_mk T2
  clear T2
  go_wp2_with fail
  clear hmin
  go_loopw [5, 15] (fun o iv wr => ∃ (k : Nat) (L : List E) (F : Nat → Prop), iv = .int .i64 k ∧ k ≤ m ∧ L.length ≤ k ∧ Hid (Tree w.heap.size wr p L F) ∧ Hid (Rw w.heap.size wr 34 2 o L.length (ecells L)) ∧ Hid (Apart o F) ∧ Hid (EntL L) ∧ Below w.heap.size w wr) (fun _ iv _ => m - (intOf iv).toNat)
  case atStart => exact ⟨0, [], F0, rfl, Nat.zero_le _, Nat.le_refl _, HT2, Rw.nil _ _ _ _, fun k h => by simp [Value.ownBlock] at h, fun x hx => absurd hx (by simp), b2⟩
  case round =>
    clear HT2 b2
    obtain ⟨k, L, F, rfl, hk, hl, T, R, HAP, HE, hb⟩ := hrel
    obtain ⟨Ao, co, rfl, hlc, hco, _, _⟩ := R.out.shape
    by_cases hlt : k < m
    · obtain ⟨b, off, rfl, hbw, hcs⟩ := HA.out (by omega)
      obtain ⟨c0, c1, c2⟩ := hcs k (by omega)
      obtain ⟨x, hx⟩ : ∃ x, x = a8 xs k := ⟨_, rfl⟩
      rw [← hx] at c0 c1 c2
      have c0' := keep_cell hb c0
      have c1' := keep_cell hb c1
      have c2' := keep_cell hb c2
      have HO := hid_mk (HOKS.out k (by omega))
      rw [← hx] at HO
      have HSR := hid_mk T.out.srt
      have bb : Below wr.heap.size wr (wr.alloc (.cells #[.int .u8 x.kind, .int .u8 x.key, .int .u8 x.id] 38)).drew := pw_below (n := 1) (balloc _)
      have Y := heap_alloc_new wr (.cells #[.int .u8 x.kind, .int .u8 x.key, .int .u8 x.id] 38)
      have y0 : (wr.alloc (.cells #[.int .u8 x.kind, .int .u8 x.key, .int .u8 x.id] 38)).drew.cell? ⟨wr.heap.size, 0, none⟩ = some (.int .u8 x.kind) := (cell_of_row _ _ 0 _ _ _ Y).trans rfl
      have y1 : (wr.alloc (.cells #[.int .u8 x.kind, .int .u8 x.key, .int .u8 x.id] 38)).drew.cell? ⟨wr.heap.size, 1, none⟩ = some (.int .u8 x.key) := (cell_of_row _ _ 1 _ _ _ Y).trans rfl
      have y2 : (wr.alloc (.cells #[.int .u8 x.kind, .int .u8 x.key, .int .u8 x.id] 38)).drew.cell? ⟨wr.heap.size, 2, none⟩ = some (.int .u8 x.id) := (cell_of_row _ _ 2 _ _ _ Y).trans rfl
      have TD := hid_mk (T.out.below bb)
      have RD := hid_mk (R.out.below bb)
      have hbD := hb.trans (bb.mono hb.size)
      have hsz : wr.heap.size < (wr.alloc (.cells #[.int .u8 x.kind, .int .u8 x.key, .int .u8 x.id] 38)).drew.heap.size := by show _ < (wr.alloc _).heap.size; simp
      have hws : w.heap.size ≤ wr.heap.size := hb.size
      have HSZ := hid_mk (And.intro hsz hws)
      have HNY : Hid (∀ j, F j → j < wr.heap.size) := hid_mk fun j hj => (T.out.foot j hj).2
      obtain ⟨q, hq⟩ : ∃ q, q = x.ent := ⟨_, rfl⟩
      have HQ := hid_mk hq
      clear hcs c0 c1 c2 hx bb Y T R hb HAP hsz hws hq
      by_cases hkd : x.kind < 180
      · go_wp2_with fail
        go_region_held3 (fun w' => w'.cell? ⟨wr.heap.size, 0, none⟩ = some (.int .u8 x.kind) ∧ w'.cell? ⟨wr.heap.size, 1, none⟩ = some (.int .u8 x.key) ∧ w'.cell? ⟨wr.heap.size, 2, none⟩ = some (.int .u8 x.id))
          ((first | go_keep | exact ⟨J0, J1, J2⟩ | exact ⟨K0, K1, K2⟩))
          ((first
            | (go_at_call 14; refine (entry_any x _ HO.out).mono ?_; rintro r w4 ⟨rfl, b4⟩; rw [← HQ.out]; have hs4 : wr.heap.size < w4.heap.size := Nat.lt_of_lt_of_le HSZ.out.1 b4.size; have T4 := hid_mk (TD.out.below b4); have R4 := hid_mk (RD.out.below b4); have hb4 := hbD.trans (b4.mono hbD.size); have K0 := keep_cell b4 y0; have K1 := keep_cell b4 y1; have K2 := keep_cell b4 y2)
            | (go_at_call 13; refine (with_any w.heap.size L _ q true _ R4.out HSR.out (by omega)).mono ?_; rintro r w5 ⟨u, rfl, R5, b5⟩; have J0 := keep_cell b5 K0; have J1 := keep_cell b5 K1; have J2 := keep_cell b5 K2)))
        have HR5 : Hid (Rw w.heap.size w5 34 2 u (add q L).length (ecells (add q L))) := hid_mk (Rw.base (show Rw w4.heap.size w5 34 2 u (add q L).length (ecells (add q L)) from R5) (by have := HSZ.out; omega))
        have hu5 : ∀ j, u.ownBlock = some j → wr.heap.size < j := fun j hj => by have h9 := (Rw.lt (show Rw w4.heap.size w5 34 2 u (add q L).length (ecells (add q L)) from R5) j hj).1; omega
        have HAP5 : Hid (Apart u F) := hid_mk fun j hj hf => by have := hu5 j hj; have := HNY.out j hf; omega
        have T5 := hid_mk (T4.out.below b5)
        have hb5 := hb4.trans (b5.mono hb4.size)
        have hs5 : wr.heap.size < w5.heap.size := Nat.lt_of_lt_of_le hs4 b5.size
        clear K0 K1 K2 T4 R4 TD RD hbD hb4 y0 y1 y2 b4 b5 R5 hu5
        go_wp2_with fail
        refine (entry_any x _ HO.out).mono ?_
        rintro r w6 ⟨rfl, b6⟩
        rw [← HQ.out]
        have T6 := hid_mk (T5.out.below b6)
        have R6 := hid_mk (HR5.out.below b6)
        have hb6 := hb5.trans (b6.mono hb5.size)
        clear T5 HR5 hb5 J0 J1 J2
        go_wp2_with fail
        refine (tadd_any w.heap.size p L F q _ T6.out (by omega)).mono ?_
        rintro r w7 ⟨rfl, F', T7, m7⟩
        have R7 := hid_mk (m7.rw_ R6.out HAP5.out)
        have AP7 := hid_mk (HAP5.out.moved m7 fun j hj => (R6.out.lt j hj).2)
        have hb7 := hb6.trans ((T6.out.moved m7).mono (by omega))
        have HT7 := hid_mk T7
        have haL := add_le (e := q) HSR.out
        have HE7 : Hid (EntL (add q L)) := hid_mk (by rw [HQ.out]; exact HE.out.add HO.out)
        clear m7 T7 T6 R6 HAP5 b6 hb6
        go_wp2_with fail
        exact ⟨⟨k + 1, _, F', by go_num, by omega, by omega, HT7, R7, AP7, HE7, hb7⟩, by simp [intOf]; omega⟩
      · have hd9 : decide (x.kind < 180) = false := decide_eq_false hkd
        go_wp2_with fail
        go_region_held3 (fun w' => w'.cell? ⟨wr.heap.size, 0, none⟩ = some (.int .u8 x.kind) ∧ w'.cell? ⟨wr.heap.size, 1, none⟩ = some (.int .u8 x.key) ∧ w'.cell? ⟨wr.heap.size, 2, none⟩ = some (.int .u8 x.id))
          ((first | go_keep | exact ⟨J0, J1, J2⟩ | exact ⟨K0, K1, K2⟩))
          ((first
            | (go_at_call 14; refine (entry_any x _ HO.out).mono ?_; rintro r w4 ⟨rfl, b4⟩; rw [← HQ.out]; have hs4 : wr.heap.size < w4.heap.size := Nat.lt_of_lt_of_le HSZ.out.1 b4.size; have T4 := hid_mk (TD.out.below b4); have R4 := hid_mk (RD.out.below b4); have hb4 := hbD.trans (b4.mono hbD.size); have K0 := keep_cell b4 y0; have K1 := keep_cell b4 y1; have K2 := keep_cell b4 y2)
            | (go_at_call 13; refine (with_any w.heap.size L _ q false _ R4.out HSR.out (by omega)).mono ?_; rintro r w5 ⟨u, rfl, R5, b5⟩; have J0 := keep_cell b5 K0; have J1 := keep_cell b5 K1; have J2 := keep_cell b5 K2)))
        have HR5 : Hid (Rw w.heap.size w5 34 2 u (del q L).length (ecells (del q L))) := hid_mk (Rw.base (show Rw w4.heap.size w5 34 2 u (del q L).length (ecells (del q L)) from R5) (by have := HSZ.out; omega))
        have hu5 : ∀ j, u.ownBlock = some j → wr.heap.size < j := fun j hj => by have h9 := (Rw.lt (show Rw w4.heap.size w5 34 2 u (del q L).length (ecells (del q L)) from R5) j hj).1; omega
        have HAP5 : Hid (Apart u F) := hid_mk fun j hj hf => by have := hu5 j hj; have := HNY.out j hf; omega
        have T5 := hid_mk (T4.out.below b5)
        have hb5 := hb4.trans (b5.mono hb4.size)
        have hs5 : wr.heap.size < w5.heap.size := Nat.lt_of_lt_of_le hs4 b5.size
        clear K0 K1 K2 T4 R4 TD RD hbD hb4 y0 y1 y2 b4 b5 R5 hu5
        go_wp2_with fail
        refine (entry_any x _ HO.out).mono ?_
        rintro r w6 ⟨rfl, b6⟩
        rw [← HQ.out]
        have T6 := hid_mk (T5.out.below b6)
        have R6 := hid_mk (HR5.out.below b6)
        have hb6 := hb5.trans (b6.mono hb5.size)
        clear T5 HR5 hb5 J0 J1 J2
        go_wp2_with fail
        refine (tdel_any w.heap.size p L F q _ T6.out (by omega)).mono ?_
        rintro r w7 ⟨rfl, F', T7, m7⟩
        have R7 := hid_mk (m7.rw_ R6.out HAP5.out)
        have AP7 := hid_mk (HAP5.out.moved m7 fun j hj => (R6.out.lt j hj).2)
        have hb7 := hb6.trans ((T6.out.moved m7).mono (by omega))
        have HT7 := hid_mk T7
        have haL := del_le (e := q) HSR.out
        have HE7 : Hid (EntL (del q L)) := hid_mk (HE.out.del q)
        clear m7 T7 T6 R6 HAP5 b6 hb6
        go_wp2_with fail
        exact ⟨⟨k + 1, _, F', by go_num, by omega, by omega, HT7, R7, AP7, HE7, hb7⟩, by simp [intOf]; omega⟩
    · obtain rfl : k = m := by omega
      go_wp2_with fail
      go_ret2
      exact ⟨p, .slice Ao L.length co, L, F, rfl, T.out, R.out, HAP.out, by omega, HE.out, hb⟩

end Go.Proofs.Ytanomhjekdefeaa
