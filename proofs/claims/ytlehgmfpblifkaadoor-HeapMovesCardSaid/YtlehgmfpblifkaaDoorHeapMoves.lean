/- The walk over the law HeapMoves. -/
import Derived.Test.YtlehgmfpblifkaaDoorHeapFresh
import Derived.Test.YtlehgmfpblifkaaDoorMapB
import Derived.Test.YtlehgmfpblifkaaDoorHeapRow
namespace Go.Proofs.YtlehgmfpblifkaaDoor
open Go.RowKit
open Go.ChangeMaps (setBlock)
set_option linter.unusedVariables false
attribute [local go_sem ↓] Go.wp_at_zero Go.wp_at_succ

theorem zeroBool : ∀ w, (zeroValue 4).run Tryd.prog w = .ok (.bool false) w := fun w => by kernel_rfl
theorem nextD_some {ds : List Dc} (hs : Asc ds) {a : Int} (h : (nextD ds a).2 = true) : (nextD ds a).1 ∈ ds ∧ a < (nextD ds a).1.id ∧ ∀ x ∈ ds, a < x.id → (nextD ds a).1.id ≤ x.id := by
  obtain ⟨h1, h2⟩ := asc_pos hs a
  obtain ⟨k, hk⟩ : ∃ k, k = posD ds a + (if hasD ds a = true then 1 else 0) := ⟨_, rfl⟩
  have hn : nextD ds a = if k < ds.length then (gc ds k, true) else (zDc, false) := by unfold nextD; rw [← hk]
  rw [hn] at h ⊢
  by_cases hl : k < ds.length
  · rw [if_pos hl]
    have hgt : a < (gc ds k).id := by
      by_cases hh : hasD ds a = true
      · obtain ⟨e1, e2⟩ := has_at hs hh
        rw [if_pos hh] at hk
        have := asc_gc hs (show posD ds a < k by omega) hl
        omega
      · rw [if_neg hh] at hk
        have e1 := h2 k (by omega) hl
        rcases Int.lt_or_eq_of_le e1 with e2 | e2
        · exact e2
        · exfalso
          apply hh
          unfold hasD
          rw [List.any_eq_true]
          exact ⟨gc ds k, gc_mem ds k hl, decide_eq_true e2.symm⟩
    refine ⟨gc_mem ds k hl, hgt, fun x hx hax => ?_⟩
    obtain ⟨j, hj, rfl⟩ := List.getElem_of_mem hx
    rw [← gc_get ds j hj] at hax ⊢
    rcases Nat.lt_trichotomy j k with h4 | h4 | h4
    · exfalso
      rcases Nat.lt_or_ge j (posD ds a) with h5 | h5
      · have := h1 j h5; omega
      · by_cases hh : hasD ds a = true
        · rw [if_pos hh] at hk
          obtain rfl : j = posD ds a := by omega
          have := (has_at hs hh).2; omega
        · rw [if_neg hh] at hk; omega
    · subst h4; exact Int.le_refl _
    · exact Int.le_of_lt (asc_gc hs h4 hj)
  · rw [if_neg hl] at h; cases h
theorem nextD_none {ds : List Dc} (hs : Asc ds) {a : Int} (h : (nextD ds a).2 = false) : ∀ x ∈ ds, x.id ≤ a := by
  obtain ⟨h1, h2⟩ := asc_pos hs a
  intro x hx
  obtain ⟨j, hj, rfl⟩ := List.getElem_of_mem hx
  rw [← gc_get ds j hj]
  unfold nextD at h
  by_cases hh : hasD ds a = true
  · rw [if_pos hh] at h
    by_cases hl : posD ds a + 1 < ds.length
    · rw [if_pos hl] at h; cases h
    · obtain ⟨e1, e2⟩ := has_at hs hh
      rcases Nat.lt_or_ge j (posD ds a) with h5 | h5
      · have := h1 j h5; omega
      · obtain rfl : j = posD ds a := by omega
        omega
  · rw [if_neg hh] at h
    by_cases hl : posD ds a + 0 < ds.length
    · rw [if_pos hl] at h; cases h
    · have := h1 j (by omega); omega
theorem delD_mem {ds : List Dc} (hs : Asc ds) (id : Int) {x : Dc} (hx : x ∈ ds) (hne : x.id ≠ id) : x ∈ delD ds id := by
  unfold delD
  by_cases h : hasD ds id = true
  · rw [if_pos h]
    obtain ⟨hk, he⟩ := has_at hs h
    obtain ⟨j, hj, rfl⟩ := List.getElem_of_mem hx
    rcases Nat.lt_trichotomy j (posD ds id) with h4 | h4 | h4
    · refine List.mem_append.2 (.inl ?_)
      exact List.mem_take_iff_getElem.2 ⟨j, by omega, rfl⟩
    · subst h4
      rw [← gc_get ds _ hj] at hne
      exact absurd he hne
    · refine List.mem_append.2 (.inr ?_)
      refine List.mem_drop_iff_getElem.2 ⟨j - (posD ds id + 1), by omega, ?_⟩
      congr 1
      omega
  · rw [if_neg h]; exact hx
/-- What is known on the way: who was there all the while is there; whoever of them is not behind the place has been seen; whoever was seen is not behind it. -/
structure Way (ds : List Dc) (last pos : Int) (T S : Int → Bool) : Prop where
  up : Upto ds last
  there : ∀ id, T id = true → ∃ d ∈ ds, d.id = id
  met : ∀ id, T id = true → id ≤ pos → S id = true
  seen : ∀ id, S id = true → id ≤ pos
theorem Way.ins {ds : List Dc} {last pos : Int} {T S : Int → Bool} (h : Way ds last pos T S) (v : Rv) : Way (ds ++ [⟨last + 1, v⟩]) (last + 1) pos T S :=
  ⟨h.up.ins v, fun id hid => by obtain ⟨d, hd, he⟩ := h.there id hid; exact ⟨d, List.mem_append_left _ hd, he⟩, h.met, h.seen⟩
theorem Way.del {ds : List Dc} {last pos : Int} {T S : Int → Bool} (h : Way ds last pos T S) (k : Int) : Way (delD ds k) last pos (fun x => !decide (x = k) && T x) S :=
  ⟨h.up.del k, fun id hid => by
    simp only [Bool.and_eq_true, Bool.not_eq_true', decide_eq_false_iff_not] at hid
    obtain ⟨d, hd, he⟩ := h.there id hid.2
    exact ⟨d, delD_mem h.up.1 k hd (by rw [he]; exact hid.1), he⟩, fun id hid hp => by
    simp only [Bool.and_eq_true] at hid
    exact h.met id hid.2 hp, h.seen⟩
theorem Way.next {ds : List Dc} {last pos : Int} {T S : Int → Bool} (h : Way ds last pos T S) (hn : (nextD ds pos).2 = true) : pos < (nextD ds pos).1.id ∧ S (nextD ds pos).1.id = false ∧ Way ds last (nextD ds pos).1.id T (fun x => decide (x = (nextD ds pos).1.id) || S x) := by
  obtain ⟨h1, h2, h3⟩ := nextD_some h.up.1 hn
  refine ⟨h2, ?_, h.up, h.there, fun id hid hp => ?_, fun id hid => ?_⟩
  · cases hS : S (nextD ds pos).1.id with
    | false => rfl
    | true => have := h.seen _ hS; omega
  · by_cases hle : id ≤ pos
    · simp [h.met id hid hle]
    · obtain ⟨d, hd, he⟩ := h.there id hid
      have h4 := h3 d hd (by rw [he]; omega)
      have h5 : id = (nextD ds pos).1.id := by omega
      simp [h5]
  · simp only [Bool.or_eq_true, decide_eq_true_eq] at hid
    rcases hid with h4 | h4
    · omega
    · have := h.seen id h4; omega
theorem way_full (k : Nat) : Way (fullD k) k 0 (fun x => decide (1 ≤ x ∧ x ≤ (k : Int))) (fun _ => false) := by
  refine ⟨⟨fullD_asc k, fun d hd => ?_⟩, fun id hid => ?_, fun id hid hp => ?_, fun id hid => by cases hid⟩
  · unfold fullD at hd
    obtain ⟨j, hj, rfl⟩ := List.mem_map.1 hd
    have := List.mem_range.1 hj
    show (j : Int) + 1 ≤ k
    omega
  · simp only [decide_eq_true_eq] at hid
    refine ⟨⟨((id - 1).toNat : Int) + 1, rI ((id - 1).toNat : Int)⟩, List.mem_map.2 ⟨(id - 1).toNat, List.mem_range.2 (by omega), rfl⟩, ?_⟩
    show ((id - 1).toNat : Int) + 1 = id
    omega
  · simp only [decide_eq_true_eq] at hid
    omega

set_option maxHeartbeats 8000000 in
set_option maxRecDepth 100000 in
theorem heapmoves_walk (A : Option Addr) (n cap : Nat) (xs : List A7) (a : Int) (w : World) (hin : InA7 w A n cap xs) (ha : (Lit.int .u8 a).wf = true) (ht : Tabs w) :
    Calls Tryd.prog 4 #[.slice A n cap, .int .u8 a] w fun e w' => e = .returned (.bool true) ∧ Below w.heap.size w w' := by
  obtain ⟨hxl, hnc, hcap, hoks, hA⟩ := hin
  obtain ⟨m, hmn, hm60, hmm, hmin⟩ := min_fact Tryd.prog n 60 (by omega)
  have hm60' : m ≤ 60 := by omega
  have hmc : m ≤ cap := by omega
  have ha' := wf_u8 ha
  obtain ⟨K, hK⟩ : ∃ K : Nat, a % 30 = (K : Int) := ⟨(a % 30).toNat, by have := Int.emod_nonneg a (b := 30) (by omega); omega⟩
  have hK30 : K < 30 := by have := Int.emod_lt_of_pos a (b := 30) (by omega); omega
  have hwK : wrap64 (K : Int) = (K : Int) := by unfold wrap64; omega
  have HOKS := hid_mk hoks
  have HA := hid_mk hA
  have HT := hid_mk ht
  clear hoks hA hxl hmm ht ha
  go_enter Tryd.func4, Tryd.ntmps4
  go_wp2_with fail
  refine (hawake_any _).mono ?_
  rintro e w1 ⟨rfl, b1⟩
  go_wp2_with fail
  refine (hnew_any _).mono ?_
  rintro e w2 ⟨p, F0, rfl, T2, b2⟩
  have HT2 : Hid (Hp w.heap.size w2 p (fullD 0) ((0 : Nat) : Int) F0) := hid_mk (T2.base b1.size)
  have B2 := bthen b1 b2
  clear T2 b1 b2
  have hmm := @run_makeMap Tryd.prog
  go_wp2_with fail
  simp only [hK]
  go_loopw [7] (fun iv wr => ∃ (k : Nat) (F : Nat → Prop), iv = .int .i64 k ∧ k ≤ K ∧ Hid (Hp w.heap.size wr p (fullD k) ((k : Nat) : Int) F) ∧ Below w.heap.size w wr) (fun iv _ => K - (intOf iv).toNat)
  case atStart => exact ⟨0, F0, rfl, Nat.zero_le _, HT2, B2⟩
  case round =>
    clear HT2 B2
    obtain ⟨k, F, rfl, hk, HH, hb⟩ := hrel
    by_cases hlt : k < K
    · have hkK : (k : Int) < (K : Int) := by omega
      have hw1 : IntKind.i64.wrap ((k : Int) + 1) = (k : Int) + 1 := by rw [IntKind.wrap_i64]; omega
      clear hmm
      go_wp2_with fail
      refine (hins_any w.heap.size p (fullD k) k F (rI k) _ HH.out hb.size (by rw [fullD_length]; omega) (by omega) (by omega)).mono ?_
      rintro e w3 ⟨rfl, F', T3, m3⟩
      rw [← fullD_succ] at T3
      have HT3 : Hid (Hp w.heap.size w3 p (fullD (k + 1)) ((k + 1 : Nat) : Int) F') := hid_mk (by rw [Int.natCast_add]; exact T3)
      have hb3 := hb.trans (HH.out.moved m3 hb.size)
      clear T3 m3 HH hb
      go_wp2_with fail
      refine ⟨⟨k + 1, F', ?_, by omega, HT3, hb3⟩, ?_⟩
      · go_num
      · simp [intOf]
        omega
    · obtain rfl : k = K := by omega
      obtain ⟨rT, hrT⟩ : ∃ rT, rT = wr.heap.size := ⟨_, rfl⟩
      have HRT := hid_mk hrT
      have hm0 : MapAt (wr.alloc (.map #[] 0)) rT [] := by rw [hrT]; exact map_new wr
      have HM0 := hid_mk hm0
      have HH0 := hid_mk (HH.out.below (balloc (.map #[] 0)))
      have hb0 := hb.trans ((balloc (w := wr) (.map #[] 0)).mono hb.size)
      have hrw : w.heap.size ≤ rT := by rw [hrT]; exact hb.size
      have HS0 : Hid (SetOf [] (fun x => decide (1 ≤ x ∧ x ≤ ((0 : Nat) : Int)))) := hid_mk fun id => by
        have : ¬ (1 ≤ id ∧ id ≤ ((0 : Nat) : Int)) := by omega
        simp only [decide_eq_false this]
        rfl
      clear hm0 HH hb hrT
      go_wp2_with fail
      clear hmm
      rw [← HRT.out]
      go_loopw [9] (fun iv wx => ∃ (j : Nat) (l : KV), iv = .int .i64 ((j : Int) + 1) ∧ j ≤ k ∧ Hid (MapAt wx rT l) ∧ Hid (SetOf l (fun x => decide (1 ≤ x ∧ x ≤ (j : Int)))) ∧ Hid (Hp w.heap.size wx p (fullD k) ((k : Nat) : Int) F) ∧ Below w.heap.size w wx) (fun iv _ => k + 1 - (intOf iv).toNat)
      case atStart => exact ⟨0, [], rfl, Nat.zero_le _, HM0, HS0, HH0, hb0⟩
      case round =>
        clear HM0 HS0 HH0 hb0
        obtain ⟨j, l, rfl, hj, HM, HS, HH, hb⟩ := hrel
        by_cases hlt2 : j < k
        · have hjk : (j : Int) + 1 ≤ (k : Int) := by omega
          have hw1 : IntKind.i64.wrap ((j : Int) + 1 + 1) = (j : Int) + 1 + 1 := by rw [IntKind.wrap_i64]; omega
          have hmap := HM.out
          go_wp2_with (refine wpList_put rfl (.tmp 40) (.tmp 41) (.const (.bool true)) 40 rfl hmap Tryd.underlying40 Tryd.underlying2 ((j : Int) + 1) (.bool true) rfl rfl rfl ?_; intro w4 hmap4 hg4)
          have HM4 := hid_mk hmap4
          have HS4 : Hid (SetOf (kvPut l ((j : Int) + 1) (.bool true)) (fun x => decide (1 ≤ x ∧ x ≤ ((j + 1 : Nat) : Int)))) := hid_mk (by
            have h9 := HS.out.put ((j : Int) + 1)
            have h8 : (fun x : Int => decide (1 ≤ x ∧ x ≤ ((j + 1 : Nat) : Int))) = fun x => decide (x = (j : Int) + 1) || decide (1 ≤ x ∧ x ≤ (j : Int)) := by
              funext x
              rw [Bool.eq_iff_iff]
              simp only [Bool.or_eq_true, decide_eq_true_eq]
              omega
            rw [h8]; exact h9)
          have HH4 := hid_mk (HH.out.grown hmap hg4)
          have hb4 := below_grown hb hrw hb.size hg4
          refine ⟨⟨j + 1, _, ?_, by omega, HM4, HS4, HH4, hb4⟩, ?_⟩
          · go_num
          · simp [intOf]
            omega
        · obtain rfl : j = k := by omega
          have hjk : ¬ (j : Int) + 1 ≤ (j : Int) := by omega
          obtain ⟨rS, hrS⟩ : ∃ rS, rS = wr.heap.size := ⟨_, rfl⟩
          have HRS := hid_mk hrS
          have hlT := HM.out.lt
          have hm0 : MapAt (wr.alloc (.map #[] 0)) rS [] := by rw [hrS]; exact map_new wr
          have HM0 := hid_mk hm0
          have HTT0 := hid_mk (HM.out.below (balloc (.map #[] 0)))
          have HH0 := hid_mk (HH.out.below (balloc (.map #[] 0)))
          have hb0 := hb.trans ((balloc (w := wr) (.map #[] 0)).mono hb.size)
          have hrw2 : w.heap.size ≤ rS := by rw [hrS]; exact hb.size
          have hTS : rT ≠ rS := by omega
          have HSS0 : Hid (SetOf [] (fun _ => false)) := hid_mk SetOf.nil
          have HW0 := hid_mk (way_full j)
          have hlen0 : (fullD j).length ≤ 30 + 0 := by rw [fullD_length]; omega
          have hla0 : 0 ≤ ((j : Nat) : Int) := by omega
          have hlb0 : ((j : Nat) : Int) ≤ 30 + ((0 : Nat) : Int) := by omega
          have HST := HS
          have hmm := @run_makeMap Tryd.prog
          clear hm0 HH hb HM HS hrS hlT
          go_wp2_with fail
          clear hmm hmin
          rw [← HRS.out]
          go_loopw [10, 49] (fun ps iv wx => ∃ (i : Nat) (pos last : Int) (ds : List Dc) (F : Nat → Prop) (T S : Int → Bool) (lT lS : KV), iv = .int .i64 i ∧ i ≤ m ∧ ps = .int .i64 pos ∧ ds.length ≤ 30 + i ∧ 0 ≤ last ∧ last ≤ 30 + i ∧ Hid (Way ds last pos T S) ∧ Hid (Hp w.heap.size wx p ds last F) ∧
            Hid (MapAt wx rT lT) ∧ Hid (SetOf lT T) ∧ Hid (MapAt wx rS lS) ∧ Hid (SetOf lS S) ∧ Below w.heap.size w wx) (fun _ iv _ => m - (intOf iv).toNat)
          case atStart => exact ⟨0, 0, (j : Int), fullD j, F, _, _, _, _, rfl, Nat.zero_le _, rfl, hlen0, hla0, hlb0, HW0, HH0, HTT0, HST, HM0, HSS0, hb0⟩
          case round =>
            clear HW0 HH0 HTT0 HST HM0 HSS0 hb0 hlen0 hla0 hlb0
            obtain ⟨i, pos, last, ds, F, T, S, lT, lS, rfl, hi, rfl, hdl, hl0, hl1, HW, HH, HMT, HST, HMS, HSS, hb⟩ := hrel
            by_cases hlt3 : i < m
            · obtain ⟨bb, off, rfl, hbw, hcs⟩ := HA.out (by omega)
              obtain ⟨c0, c1, c2⟩ := hcs i (by omega)
              obtain ⟨x, hx⟩ : ∃ x, x = a7 xs i := ⟨_, rfl⟩
              rw [← hx] at c0 c1 c2
              have c0' := keep_cell hb c0
              have c1' := keep_cell hb c1
              have c2' := keep_cell hb c2
              have hok := HOKS.out i (by omega)
              rw [← hx] at hok
              obtain ⟨hkind, hxid, hbytes⟩ := hok
              have HBY := hid_mk hbytes
              have hq0 : 0 ≤ x.kind % 4 := Int.emod_nonneg _ (by omega)
              have hq1 : x.kind % 4 < 4 := Int.emod_lt_of_pos _ (by omega)
              have hi0 : 0 ≤ x.id % 40 := Int.emod_nonneg _ (by omega)
              have hi1 : x.id % 40 < 40 := Int.emod_lt_of_pos _ (by omega)
              have ba := balloc (w := wr) (.cells #[.int .u8 x.kind, .int .u8 x.id, .slice x.A x.n x.cap] 28)
              have Ha := hid_mk (HH.out.below ba)
              have Ta := hid_mk (HMT.out.below ba)
              have Sa := hid_mk (HMS.out.below ba)
              have Ya := heap_alloc_new wr (.cells #[.int .u8 x.kind, .int .u8 x.id, .slice x.A x.n x.cap] 28)
              have hba := hb.trans (ba.mono hb.size)
              clear hcs c0 c1 c2 hx hbytes HH hb ba HMT HMS
              by_cases hk0 : x.kind % 4 = 0
              · clear hq0 hq1
                have HBY' := hid_mk (Bytes.of_below HBY.out hba)
                have HT' := hid_mk (HT.out.below hba)
                clear Ya
                go_wp2_with fail
                refine (of_any x.A x.n x.cap x.zs _ HBY'.out HT'.out).mono ?_
                rintro e w3 ⟨v, r, rfl, D3, G3, b3⟩
                have H3 := hid_mk (Ha.out.below b3)
                have T3 := hid_mk (Ta.out.below b3)
                have S3 := hid_mk (Sa.out.below b3)
                have hb3 := hba.trans (b3.mono hba.size)
                obtain ⟨rk, ri, rt, ⟨la, ln, lc⟩, ⟨fa, fn, fc⟩⟩ := r
                simp only [Rv.agg, Sl.v]
                clear D3 G3 b3 Ha hba HBY' HT' Ta Sa
                go_wp2_with fail
                refine (hins_any w.heap.size p ds last F ⟨rk, ri, rt, ⟨la, ln, lc⟩, ⟨fa, fn, fc⟩⟩ _ H3.out hb3.size (by omega) hl0 (by omega)).mono ?_
                rintro e w4 ⟨rfl, F', H4, m4⟩
                have HH4 := hid_mk H4
                have HT4 := hid_mk (T3.out.mv m4 (H3.out.no_map T3.out))
                have HS4 := hid_mk (S3.out.mv m4 (H3.out.no_map S3.out))
                have hb4 := hb3.trans (H3.out.moved m4 hb3.size)
                have HW4 := hid_mk (HW.out.ins ⟨rk, ri, rt, ⟨la, ln, lc⟩, ⟨fa, fn, fc⟩⟩)
                clear H4 m4 H3 hb3 T3 S3
                go_wp2_with fail
                refine ⟨⟨i + 1, pos, last + 1, _, F', T, S, lT, lS, ?_, by omega, rfl, by rw [List.length_append]; simp; omega, by omega, by omega, HW4, HH4, HT4, HST, HS4, HSS, hb4⟩, ?_⟩
                · go_num
                · simp [intOf]
                  omega
              · by_cases hk1 : x.kind % 4 = 1
                · have hw1 : wrap64 (x.id % 40) = x.id % 40 := by unfold wrap64; omega
                  clear hq0 hq1 hk0
                  go_wp2_with fail
                  refine (hdel_any w.heap.size p ds last (x.id % 40) F _ Ha.out hba.size HW.out.up.1 (by omega)).mono ?_
                  rintro e w3 ⟨rfl, F', H3, m3⟩
                  have HH3 := hid_mk H3
                  have HT3 := Ta.out.mv m3 (Ha.out.no_map Ta.out)
                  have HS3 := hid_mk (Sa.out.mv m3 (Ha.out.no_map Sa.out))
                  have hnF : ¬ F wr.heap.size := fun h9 => by
                    obtain ⟨v9, q1, q2, q3, rfl⟩ := Ha.out
                    rcases h9 with h9 | h9
                    · rw [← h9] at q1; rw [Ya] at q1; injection q1 with q1; injection q1 with _ q1; cases q1
                    · exact q3.ne Ya (by decide) h9
                  have Y3 := m3.at_ Ya hnF
                  have z1 : w3.cell? ⟨wr.heap.size, 1, none⟩ = some (.int .u8 x.id) := (cell_of_row _ _ 1 _ _ _ Y3).trans rfl
                  have hb3 := hba.trans (Ha.out.moved m3 hba.size)
                  have hdl' := delD_le ds (x.id % 40)
                  have HW3 := hid_mk (HW.out.del (x.id % 40))
                  clear H3 m3 Ha hba Ta Sa Ya Y3 hnF
                  go_wp2_with (refine wpList_del rfl (.tmp 96) (.tmp 100) 40 rfl HT3 Tryd.underlying40 Tryd.underlying2 (x.id % 40) rfl rfl ?_; intro w4 hmap4 hg4)
                  have HT4 := hid_mk hmap4
                  have HST4 := hid_mk (HST.out.del HT3.nodup (x.id % 40))
                  have HS4 := hid_mk (HS3.out.other hg4 (fun e => hTS e.symm))
                  have HH4 := hid_mk (HH3.out.grown HT3 hg4)
                  have hb4 := below_grown hb3 hrw hb3.size hg4
                  refine ⟨⟨i + 1, pos, last, _, F', _, S, _, lS, ?_, by omega, rfl, by omega, hl0, by omega, HW3, HH4, HT4, HST4, HS4, HSS, hb4⟩, ?_⟩
                  · go_num
                  · simp [intOf]
                    omega
                · have q1 : (x.kind % 4 == 0) = false := beq_eq_false_iff_ne.2 hk0
                  have q2 : (x.kind % 4 == 1) = false := beq_eq_false_iff_ne.2 hk1
                  clear hq0 hq1 Ya
                  go_wp2_with fail
                  refine (hnext_any w.heap.size p ds last pos F _ Ha.out HW.out.up.1 (by omega)).mono ?_
                  rintro e w3 ⟨rfl, b3⟩
                  obtain ⟨z, hz⟩ : ∃ z, z = nextD ds pos := ⟨_, rfl⟩
                  rw [← hz]
                  have HZ := hid_mk hz
                  obtain ⟨⟨zi, zk, zj, zt, ⟨la, ln, lc⟩, ⟨fa, fn, fc⟩⟩, zb⟩ := z
                  simp only [Dc.agg, Sl.v]
                  have bz := balloc (w := w3) (.cells #[.int .i64 zi, .int .i64 zk, .int .i64 zj, .string zt, .slice la ln lc, .slice fa fn fc] 42)
                  have bb := bthen b3 bz
                  have H4 := hid_mk (Ha.out.below bb)
                  have T4 := hid_mk (Ta.out.below bb)
                  have S4 := Sa.out.below bb
                  have hb4 := hba.trans (bb.mono hba.size)
                  have Yx := heap_alloc_new w3 (.cells #[.int .i64 zi, .int .i64 zk, .int .i64 zj, .string zt, .slice la ln lc, .slice fa fn fc] 42)
                  have x0 : (w3.alloc (.cells #[.int .i64 zi, .int .i64 zk, .int .i64 zj, .string zt, .slice la ln lc, .slice fa fn fc] 42)).cell? ⟨w3.heap.size, 0, none⟩ = some (.int .i64 zi) := (cell_of_row _ _ 0 _ _ _ Yx).trans rfl
                  cases zb with
                  | false =>
                    have HS4 := hid_mk S4
                    clear hz Yx bz bb b3 Ha Ta Sa hba S4
                    go_wp2_with fail
                    refine ⟨⟨i + 1, pos, last, ds, F, T, S, lT, lS, ?_, by omega, rfl, by omega, hl0, by omega, HW, H4, T4, HST, HS4, HSS, hb4⟩, ?_⟩
                    · go_num
                    · simp [intOf]
                      omega
                  | true =>
                    obtain ⟨n1, n2, n3⟩ := HW.out.next (by rw [← hz])
                    rw [← hz] at n1 n2 n3
                    simp only at n1 n2 n3
                    have HW4 := hid_mk n3
                    have hlk := run_look_plain (P := Tryd.prog) S4 Tryd.underlying40 Tryd.underlying2 (.bool false) (zeroBool _) zi
                    rw [HSS.out.look zi, n2] at hlk
                    have hnl : ¬ zi ≤ pos := by omega
                    clear hz Yx bz bb b3 Ha Ta Sa hba n2 n3
                    go_wp2_with (refine wpList_put rfl (.tmp 78) (.tmp 80) (.const (.bool true)) 40 rfl S4 Tryd.underlying40 Tryd.underlying2 zi (.bool true) rfl rfl rfl ?_; intro w5 hmap5 hg5)
                    have HS5 := hid_mk hmap5
                    have HSS5 := hid_mk (HSS.out.put zi)
                    have HT5 := hid_mk (T4.out.other hg5 hTS)
                    have HH5 := hid_mk (H4.out.grown S4 hg5)
                    have hb5 := below_grown hb4 hrw2 hb4.size hg5
                    refine ⟨⟨i + 1, zi, last, ds, F, T, _, lT, _, ?_, by omega, rfl, by omega, hl0, by omega, HW4, HH5, HT5, HST, HS5, HSS5, hb5⟩, ?_⟩
                    · go_num
                    · simp [intOf]
                      omega
            · obtain rfl : i = m := by omega
              obtain ⟨es, c, hb1, hent, hnd, hbc, hkn⟩ := HMT.out
              have hrg := run_range_map (P := Tryd.prog) wr 40 2 4 rT es c Tryd.underlying40 hb1
              obtain ⟨IT, hIT⟩ : ∃ IT, IT = wr.heap.size := ⟨_, rfl⟩
              obtain ⟨w0, hw0⟩ : ∃ w0, w0 = wr.alloc (.mapIter (some rT) c #[] c) := ⟨_, rfl⟩
              have I0 : Hid (w0.heap[IT]? = some (.mapIter (some rT) c #[] c)) := hid_mk (by rw [hw0, hIT]; exact heap_alloc_new wr _)
              have M0 : Hid (w0.heap[rT]? = some (.map es c)) := hid_mk (by rw [hw0]; exact below_block (balloc _) (lt_of_block hb1) hb1)
              have S0 : Hid (MapAt w0 rS lS) := hid_mk (by rw [hw0]; exact HMS.out.below (balloc _))
              have b0 : Below w.heap.size w w0 := by rw [hw0]; exact hb.trans ((balloc (w := wr) _).mono hb.size)
              have hIw : w.heap.size ≤ IT := by rw [hIT]; exact hb.size
              have hIr : rT ≠ IT := by rw [hIT]; have := lt_of_block hb1; omega
              have hIs : rS ≠ IT := by rw [hIT]; have := HMS.out.lt; omega
              have HK : Hid (∀ e ∈ es.toList, ∃ id, e.key = .int .i64 id ∧ T id = true) := hid_mk fun e he => by
                obtain ⟨k, v, q1, q2, q3⟩ := ent_mem hent he
                refine ⟨k, q2, ?_⟩
                have q4 := kv_get_mem hkn q1
                rw [HST.out k] at q4
                cases hT : T k with
                | true => rfl
                | false => rw [hT] at q4; cases q4
              have HND := hid_mk hnd
              have HBC := hid_mk hbc
              rw [← hw0, ← hIT] at hrg
              have HW0 := hid_mk hw0
              clear hw0 hIT hnd hbc hkn hent hb1 HMT HMS HST hb HH
              go_wp2_with fail
              go_loopw [] (fun wx => ∃ seen : Array Nat, Hid (wx.heap[IT]? = some (.mapIter (some rT) c seen c)) ∧ Hid (wx.heap[rT]? = some (.map es c)) ∧ Hid (MapAt wx rS lS) ∧ Hid (Below w.heap.size w wx)) (fun wx => (leftOf es (wx.iterSeen IT)).size)
              case atStart => exact ⟨#[], I0, M0, S0, b0⟩
              case round =>
                clear I0 M0 S0 b0 hrg HW0
                obtain ⟨seen, HI, HM, HS2, HB⟩ := hrel
                have hsee : wr.iterSeen IT = seen := by unfold World.iterSeen; rw [HI.out]
                rcases run_next_at (P := Tryd.prog) wr 3 IT rT c c seen es c HI.out HM.out HBC.out (Nat.le_refl _) with ⟨h0, hrun⟩ | ⟨e, he, w1, hw1, hrun⟩
                · have hnx : ∀ ty, (Instr.next (.pointer (some ⟨IT, 0, none⟩)) false ty).run Tryd.prog wr = _ := fun _ => hrun
                  clear hrun h0 hsee
                  go_wp2_with fail
                  go_ret
                  exact ⟨rfl, HB.out⟩
                · obtain ⟨id, hkey, hTid⟩ := HK.out e (mem_left he).1
                  have hheap : w1.heap = wr.heap := by rcases hw1 with rfl | rfl <;> rfl
                  have hbw1 : Below w.heap.size w w1 := by
                    rcases hw1 with rfl | rfl
                    · exact HB.out
                    · exact pw_below (n := 1) HB.out
                  obtain ⟨w2, hw2⟩ : ∃ w2, w2 = setBlock w1 IT (.mapIter (some rT) c (seen.push e.born) c) := ⟨_, rfl⟩
                  rw [← hw2, hkey] at hrun
                  have hIlt : IT < w1.heap.size := by rw [hheap]; exact lt_of_block HI.out
                  have I2 : w2.heap[IT]? = some (.mapIter (some rT) c (seen.push e.born) c) := by rw [hw2]; exact setBlock_at _ hIlt
                  have M2 : w2.heap[rT]? = some (.map es c) := by rw [hw2, setBlock_other _ hIr, hheap]; exact HM.out
                  have S2 : MapAt w2 rS lS := by
                    obtain ⟨es', c', q1, q2⟩ := HS2.out
                    exact ⟨es', c', by rw [hw2, setBlock_other _ hIs, hheap]; exact q1, q2⟩
                  have b2 : Below w.heap.size w w2 := by
                    rw [hw2]
                    exact below_grown hbw1 hIw hbw1.size (setBlock_grown _)
                  have hen := run_entry_at (P := Tryd.prog) w2 IT rT c seen es c e I2 M2 (mem_left he).1 HND.out
                  rw [hkey] at hen
                  have hnx : ∀ ty, (Instr.next (.pointer (some ⟨IT, 0, none⟩)) false ty).run Tryd.prog wr = _ := fun _ => hrun
                  have hlk := run_look_plain (P := Tryd.prog) S2 Tryd.underlying40 Tryd.underlying2 (.bool false) (zeroBool _) id
                  rw [HSS.out.look id] at hlk
                  have hmeas : (leftOf es (w2.iterSeen IT)).size < (leftOf es (wr.iterSeen IT)).size := by
                    rw [hsee, show w2.iterSeen IT = seen.push e.born by unfold World.iterSeen; rw [I2]]
                    exact left_shrinks es seen e he
                  have HMEAS := hid_mk hmeas
                  have HI2 := hid_mk I2
                  have HM2 := hid_mk M2
                  have HS3 := hid_mk S2
                  have HB2 := hid_mk b2
                  have hmet := HW.out.met id hTid
                  clear hrun hw2 I2 M2 S2 b2 hmeas hsee hw1 hheap hbw1 hIlt HI HM HS2 HB hTid
                  by_cases hle : id ≤ pos
                  · rw [hmet hle] at hlk
                    clear hmet he hkey
                    go_wp2_with fail
                    exact ⟨⟨_, HI2, HM2, HS3, HB2⟩, HMEAS.out⟩
                  · clear hmet he hkey
                    go_wp2_with fail
                    exact ⟨⟨_, HI2, HM2, HS3, HB2⟩, HMEAS.out⟩

end Go.Proofs.YtlehgmfpblifkaaDoor
