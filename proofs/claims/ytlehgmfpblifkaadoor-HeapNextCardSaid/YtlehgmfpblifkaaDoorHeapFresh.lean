/- The walk over the law HeapFresh. -/
import Derived.Test.YtlehgmfpblifkaaDoorHeapAct
import Derived.Test.YtlehgmfpblifkaaDoorHeapE
namespace Go.Proofs.YtlehgmfpblifkaaDoor
open Go.RowKit
set_option linter.unusedVariables false
attribute [local go_sem ↓] Go.wp_at_zero Go.wp_at_succ

theorem delD_le (ds : List Dc) (id : Int) : (delD ds id).length ≤ ds.length := by
  unfold delD
  split
  · rw [List.length_append, List.length_take, List.length_drop]; omega
  · exact Nat.le_refl _
theorem delD_sub (ds : List Dc) (id : Int) : List.Sublist (delD ds id) ds := by
  unfold delD
  split
  · have h : List.Sublist (ds.take (posD ds id) ++ ds.drop (posD ds id + 1)) (ds.take (posD ds id) ++ ds.drop (posD ds id)) :=
      List.Sublist.append (List.Sublist.refl _) (List.drop_sublist_drop_left ds (Nat.le_succ _))
    rwa [List.take_append_drop] at h
  · exact List.Sublist.refl _
/-- Records rise, and none is behind the last number. -/
def Upto (ds : List Dc) (last : Int) : Prop := Asc ds ∧ ∀ d ∈ ds, d.id ≤ last
theorem Upto.del {ds : List Dc} {last : Int} (h : Upto ds last) (id : Int) : Upto (delD ds id) last :=
  ⟨List.Pairwise.sublist (delD_sub ds id) h.1, fun d hd => h.2 d ((delD_sub ds id).subset hd)⟩
theorem Upto.ins {ds : List Dc} {last : Int} (h : Upto ds last) (v : Rv) : Upto (ds ++ [⟨last + 1, v⟩]) (last + 1) := by
  refine ⟨List.pairwise_append.2 ⟨h.1, List.pairwise_singleton _ _, fun a ha b hb => ?_⟩, fun d hd => ?_⟩
  · simp at hb; subst hb
    have := h.2 a ha
    show a.id < last + 1
    omega
  · rcases List.mem_append.1 hd with h1 | h1
    · have := h.2 d h1; omega
    · simp at h1; subst h1; exact Int.le_refl _
theorem Upto.nil (last : Int) : Upto [] last := ⟨List.Pairwise.nil, fun d hd => absurd hd (by simp)⟩

set_option maxHeartbeats 4000000 in
set_option maxRecDepth 100000 in
theorem heapfresh_walk (A : Option Addr) (n cap : Nat) (xs : List A7) (w : World) (hin : InA7 w A n cap xs) (ht : Tabs w) :
    Calls Tryd.prog 3 #[.slice A n cap] w fun e w' => e = .returned (.bool true) ∧ Below w.heap.size w w' := by
  obtain ⟨hxl, hnc, hcap, hoks, hA⟩ := hin
  obtain ⟨m, hmn, hm80, hmm, hmin⟩ := min_fact Tryd.prog n 80 (by omega)
  have hm80' : m ≤ 80 := by omega
  have hmc : m ≤ cap := by omega
  have HOKS := hid_mk hoks
  have HA := hid_mk hA
  have HT := hid_mk ht
  clear hoks hA hxl hmm ht
  go_enter Tryd.func3, Tryd.ntmps3
  go_wp2_with fail
  refine (hawake_any _).mono ?_
  rintro e w1 ⟨rfl, b1⟩
  go_wp2_with fail
  refine (hnew_any _).mono ?_
  rintro e w2 ⟨p, F0, rfl, T2, b2⟩
  have HT2 := hid_mk (T2.base b1.size)
  have B2 := bthen b1 b2
  clear T2 b1 b2
  go_wp2_with fail
  clear hmin
  go_loopw [4, 20] (fun ls iv wr => ∃ (k : Nat) (last : Int) (ds : List Dc) (F : Nat → Prop), iv = .int .i64 k ∧ k ≤ m ∧ ls = .int .i64 last ∧ 0 ≤ last ∧ last ≤ k ∧ ds.length ≤ k ∧ Hid (Upto ds last) ∧ Hid (Hp w.heap.size wr p ds last F) ∧ Below w.heap.size w wr) (fun _ iv _ => m - (intOf iv).toNat)
  case atStart => exact ⟨0, 0, [], F0, rfl, Nat.zero_le _, rfl, by omega, by omega, Nat.le_refl _, Upto.nil 0, HT2, B2⟩
  case round =>
    clear HT2 B2
    obtain ⟨k, last, ds, F, rfl, hk, rfl, hl0, hlk, hdl, HU, HH, hb⟩ := hrel
    by_cases hlt : k < m
    · obtain ⟨bb, off, rfl, hbw, hcs⟩ := HA.out (by omega)
      obtain ⟨c0, c1, c2⟩ := hcs k (by omega)
      obtain ⟨x, hx⟩ : ∃ x, x = a7 xs k := ⟨_, rfl⟩
      rw [← hx] at c0 c1 c2
      have c0' := keep_cell hb c0
      have c1' := keep_cell hb c1
      have c2' := keep_cell hb c2
      have hok := HOKS.out k (by omega)
      rw [← hx] at hok
      obtain ⟨hkind, hxid, hbytes⟩ := hok
      have HBY := hid_mk hbytes
      have hm0 : 0 ≤ x.kind % 2 := Int.emod_nonneg _ (by omega)
      have hm1 : x.kind % 2 < 2 := Int.emod_lt_of_pos _ (by omega)
      have hi0 : 0 ≤ x.id % 30 := Int.emod_nonneg _ (by omega)
      have hi1 : x.id % 30 < 30 := Int.emod_lt_of_pos _ (by omega)
      have ba := balloc (w := wr) (.cells #[.int .u8 x.kind, .int .u8 x.id, .slice x.A x.n x.cap] 28)
      have Ha := hid_mk (HH.out.below ba)
      have hba := hb.trans (ba.mono hb.size)
      clear hcs c0 c1 c2 hx hbytes HH hb ba
      by_cases hk0 : x.kind % 2 = 0
      · have hw1 : wrap64 (x.id % 30) = x.id % 30 := by unfold wrap64; omega
        clear hm0 hm1
        go_wp2_with fail
        refine (hdel_any w.heap.size p ds last (x.id % 30) F _ Ha.out hba.size HU.out.1 (by omega)).mono ?_
        rintro e w3 ⟨rfl, F', T3, m3⟩
        have T4 := hid_mk T3
        have hb4 := hba.trans (Ha.out.moved m3 hba.size)
        have hdl' := delD_le ds (x.id % 30)
        have HU' := hid_mk (HU.out.del (x.id % 30))
        clear T3 m3 Ha hba
        go_wp2_with fail
        refine ⟨⟨k + 1, last, delD ds (x.id % 30), F', ?_, by omega, rfl, hl0, by omega, by omega, HU', T4, hb4⟩, ?_⟩
        · go_num
        · simp [intOf]
          omega
      · have hk1 : x.kind % 2 = 1 := by omega
        have hw1 : IntKind.i64.wrap (last + 1) = last + 1 := by rw [IntKind.wrap_i64]; omega
        clear hm0 hm1 hk0
        have HBY' := hid_mk (Bytes.of_below HBY.out hba)
        have HT' := hid_mk (HT.out.below hba)
        go_wp2_with fail
        refine (of_any x.A x.n x.cap x.zs _ HBY'.out HT'.out).mono ?_
        rintro e w3 ⟨v, r, rfl, D3, G3, b3⟩
        have H3 := hid_mk (Ha.out.below b3)
        have hb3 := hba.trans (b3.mono hba.size)
        obtain ⟨rk, ri, rt, ⟨la, ln, lc⟩, ⟨fa, fn, fc⟩⟩ := r
        simp only [Rv.agg, Sl.v]
        clear D3 G3 b3 Ha hba HBY' HT'
        go_wp2_with fail
        refine (hins_any w.heap.size p ds last F ⟨rk, ri, rt, ⟨la, ln, lc⟩, ⟨fa, fn, fc⟩⟩ _ H3.out hb3.size (by omega) hl0 (by omega)).mono ?_
        rintro e w4 ⟨rfl, F', T4, m4⟩
        have HT4 := hid_mk T4
        have hb4 := hb3.trans (H3.out.moved m4 hb3.size)
        have HU' := hid_mk (HU.out.ins ⟨rk, ri, rt, ⟨la, ln, lc⟩, ⟨fa, fn, fc⟩⟩)
        have hne : (last + 1 != last + 1) = false := by simp
        clear T4 m4 H3 hb3
        go_wp2_with fail
        refine (hlast_any w.heap.size p _ (last + 1) F' _ HT4.out).mono ?_
        rintro e w5 ⟨rfl, rfl⟩
        go_wp2_with fail
        refine ⟨⟨k + 1, last + 1, _, F', ?_, by omega, rfl, by omega, by omega, by rw [List.length_append]; simp; omega, HU', HT4, hb4⟩, ?_⟩
        · go_num
        · simp [intOf]
          omega
    · obtain rfl : k = m := by omega
      have heq : (last == last) = true := by simp
      go_wp2_with fail
      refine (hlast_any w.heap.size p ds last F _ HH.out).mono ?_
      rintro e w5 ⟨rfl, rfl⟩
      go_wp2_with fail
      go_ret
      exact ⟨rfl, hb⟩

end Go.Proofs.YtlehgmfpblifkaaDoor
