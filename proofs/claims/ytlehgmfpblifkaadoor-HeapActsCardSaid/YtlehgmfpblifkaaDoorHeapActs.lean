/- The walk over the law HeapActs. -/
import Derived.Test.YtlehgmfpblifkaaDoorHeapDo
namespace Go.Proofs.YtlehgmfpblifkaaDoor
open Go.RowKit
set_option linter.unusedVariables false
attribute [local go_sem ↓] Go.wp_at_zero Go.wp_at_succ

theorem look_snd (ds : List Dc) (id : Int) : (lookD ds id).2 = hasD ds id := by
  unfold lookD
  cases hasD ds id <;> rfl

set_option maxHeartbeats 4000000 in
set_option maxRecDepth 100000 in
theorem heapacts_walk (A : Option Addr) (n cap : Nat) (xs : List A7) (id : Int) (w : World) (hin : InA7 w A n cap xs) (hwf : (Lit.int .i64 id).wf = true) (ht : Tabs w) :
    Calls Tryd.prog 6 #[.slice A n cap, .int .i64 id] w fun e w' => e = .returned (.bool true) ∧ Below w.heap.size w w' := by
  obtain ⟨hxl, hnc, hcap, hoks, hA⟩ := hin
  obtain ⟨m, hmn, hm60, hmm, hmin⟩ := min_fact Tryd.prog n 60 (by omega)
  have hm60' : m ≤ 60 := by omega
  have hmc : m ≤ cap := by omega
  have HOKS := hid_mk hoks
  have HA := hid_mk hA
  have HT := hid_mk ht
  clear hoks hA hxl hmm ht hwf
  go_enter Tryd.func6, Tryd.ntmps6
  go_wp2_with fail
  refine (hawake_any _).mono ?_
  rintro e w1 ⟨rfl, b1⟩
  go_wp2_with fail
  refine (hnew_any _).mono ?_
  rintro e w2 ⟨p, F0, rfl, T2, b2⟩
  have B2 := bthen b1 b2
  obtain ⟨r, hr⟩ : ∃ r, r = w2.heap.size := ⟨_, rfl⟩
  have HM0 : Hid (Hm w.heap.size (w2.alloc (.map #[] 0)) p r [] 0 []) := hid_mk (by
    rw [hr]
    exact ⟨F0, (T2.base b1.size).below (balloc _), map_new w2, Pr.nil, Upto.nil 0, RdAll.nil _, B2.size, by simp; have := B2.size; omega⟩)
  have hb0 : Below w.heap.size w (w2.alloc (.map #[] 0)) := B2.trans ((balloc (w := w2) _).mono B2.size)
  have hmm := @run_makeMap Tryd.prog
  clear T2 b1 b2 B2
  go_wp2_with fail
  clear hmm hmin
  rw [← hr]
  clear hr
  go_loopw [7, 33] (fun ls iv wr => ∃ (k : Nat) (last : Int) (ds : List Dc) (l : KV), iv = .int .i64 k ∧ k ≤ m ∧ ls = .int .i64 last ∧ ds.length ≤ k ∧ 0 ≤ last ∧ last ≤ k ∧ Hid (Hm w.heap.size wr p r ds last l) ∧ Below w.heap.size w wr) (fun _ iv _ => m - (intOf iv).toNat)
  case atStart => exact ⟨0, 0, [], [], rfl, Nat.zero_le _, rfl, Nat.le_refl _, Int.le_refl _, by omega, HM0, hb0⟩
  case round =>
    clear HM0 hb0
    obtain ⟨k, last, ds, l, rfl, hk, rfl, hdl, hl0, hl1, HM, hb⟩ := hrel
    by_cases hlt : k < m
    · obtain ⟨bb, off, rfl, hbw, hcs⟩ := HA.out (by omega)
      obtain ⟨c0, c1, c2⟩ := hcs k (by omega)
      obtain ⟨x, hx⟩ : ∃ x, x = a7 xs k := ⟨_, rfl⟩
      rw [← hx] at c0 c1 c2
      have c0' := keep_cell hb c0
      have c1' := keep_cell hb c1
      have c2' := keep_cell hb c2
      have hok := HOKS.out k (by omega)
      rw [← hx] at hok
      have ba := balloc (w := wr) (.cells #[.int .u8 x.kind, .int .u8 x.id, .slice x.A x.n x.cap] 28)
      have hba := hb.trans (ba.mono hb.size)
      have HOK : Hid (x.ok (wr.alloc (.cells #[.int .u8 x.kind, .int .u8 x.id, .slice x.A x.n x.cap] 28))) := hid_mk ⟨hok.1, hok.2.1, Bytes.of_below hok.2.2 hba⟩
      have HMa := hid_mk (HM.out.below ba)
      have HTa := hid_mk (HT.out.below hba)
      clear hcs c0 c1 c2 hx hok ba HM hb
      go_wp2_with fail
      refine (do_any w.heap.size p r ds last l x _ HMa.out HOK.out HTa.out (by omega) hl0 (by omega)).mono ?_
      rintro e w3 ⟨ds', last', l', rfl, H3, b3, g1, g2, g3⟩
      have hb3 := hba.trans b3
      have HM3 := hid_mk H3
      obtain ⟨F3, H3', M3, P3, U3, R3, _, _⟩ := H3
      have hml : ∀ ty, (Builtin.len_ #[46] ty #[.map (some r)]).run Tryd.prog w3 = .ok (.int .i64 ds'.length) w3 := fun ty => by rw [← P3.len]; exact run_mlen M3 Tryd.underlying46 ty
      have HH3 := hid_mk H3'
      have hw1 : IntKind.i64.wrap (last' + 1) = last' + 1 := by rw [IntKind.wrap_i64]; omega
      have hw2 : wrap64 (last' + 1) = last' + 1 := by unfold wrap64; omega
      have hl0' : 0 ≤ last' := by omega
      clear HMa HOK HTa hba b3 H3' M3 P3 U3 R3 c0' c1' c2'
      go_wp2_with (first | (go_at_call 17; refine (hlen_any w.heap.size p ds' last' F3 _ HH3.out).mono ?_; rintro e w' ⟨rfl, rfl⟩) | (go_at_call 13; refine (hlast_any w.heap.size p ds' last' F3 _ HH3.out).mono ?_; rintro e w' ⟨rfl, rfl⟩))
      clear hml HH3
      go_loopw [12] (fun iv wx => ∃ i : Int, iv = .int .i64 i ∧ 0 ≤ i ∧ i ≤ last' + 2 ∧ Hid (Hm w.heap.size wx p r ds' last' l') ∧ Below w.heap.size w wx) (fun iv _ => (last' + 2 - intOf iv).toNat)
      case atStart => exact ⟨0, rfl, Int.le_refl _, by omega, HM3, hb3⟩
      case round =>
        clear HM3 hb3
        obtain ⟨i, rfl, hi0, hi2, HMi, hbi⟩ := hrel
        by_cases hle : i ≤ last' + 1
        · obtain ⟨F4, H4, M4, P4, U4, R4, hBr, _⟩ := HMi.out
          have HU4 := hid_mk U4
          have HH4 := hid_mk H4
          have hwi : IntKind.i64.wrap (i + 1) = i + 1 := by rw [IntKind.wrap_i64]; omega
          have hwi2 : wrap64 (i + 1) = i + 1 := by unfold wrap64; omega
          obtain ⟨v, hv⟩ := R4.look U4.1 i
          have HV := hid_mk hv
          have HP4 := hid_mk P4
          have HM4 := hid_mk M4
          clear H4 U4 R4 hv M4 P4
          go_wp2_with fail
          refine (hget_any w.heap.size p ds' last' i F4 _ HH4.out HU4.out.1 (by omega)).mono ?_
          rintro e w5 ⟨rfl, b5⟩
          have bz := b5
          obtain ⟨z, hz⟩ : ∃ z, z = lookD ds' i := ⟨_, rfl⟩
          have hsn := look_snd ds' i
          rw [← hz] at hsn ⊢
          have HV5 := HV.out.below b5
          rw [← hz] at HV5
          have hlk0 := HP4.out.look HU4.out.1 i
          rw [← hz] at hlk0
          have hso := HP4.out.some_ i
          rw [← hsn] at hso
          obtain ⟨⟨zk, zi, zt, ⟨za, zn, zc⟩, ⟨ya, yn, yc⟩⟩, zb⟩ := z
          simp only [Rv.agg, Sl.v] at hlk0 hso ⊢
          have b6 := balloc (w := w5) (.cells #[.int .i64 zk, .int .i64 zi, .string zt, .slice za zn zc, .slice ya yn yc] 36)
          have hlk := run_look_ok (P := Tryd.prog) ((HM4.out.below b5).below b6) Tryd.underlying46 Tryd.underlying2 zR.agg (zeroV7 _) i
          simp only [Rv.agg, Sl.v] at hlk
          simp only [zR, Sl.v] at hlk hlk0
          rw [hlk0, hso] at hlk
          have X6 := heap_alloc_new w5 (.cells #[.int .i64 zk, .int .i64 zi, .string zt, .slice za zn zc, .slice ya yn yc] 36)
          have b7 := balloc (w := w5.alloc (.cells #[.int .i64 zk, .int .i64 zi, .string zt, .slice za zn zc, .slice ya yn yc] 36)) (.cells #[.int .i64 zk, .int .i64 zi, .string zt, .slice za zn zc, .slice ya yn yc] 36)
          have X7 := below_block b7 (lt_of_block X6) X6
          have x0 := (cell_of_row _ _ 0 _ _ _ X7).trans rfl
          have x1 := (cell_of_row _ _ 1 _ _ _ X7).trans rfl
          have x2 := (cell_of_row _ _ 2 _ _ _ X7).trans rfl
          have x3 := (cell_of_row _ _ 3 _ _ _ X7).trans rfl
          have x4 := (cell_of_row _ _ 4 _ _ _ X7).trans rfl
          have HV7 := hid_mk ((HV5.below b6).below b7)
          have hb7 := hid_mk (bthen (bthen b5 b6) b7)
          have HMi' := hid_mk (HMi.out.below hb7.out)
          have hbi' := hid_mk (hbi.trans (hb7.out.mono hbi.size))
          clear hz hsn HV5 hlk0 hso b6 b7 bz X6 X7 HV HP4 HM4 HH4 HU4 hbi HMi hb7 b5
          go_wp2_with (go_at_call 16; refine (same_any 4 v v ⟨zk, zi, zt, ⟨za, zn, zc⟩, ⟨ya, yn, yc⟩⟩ ⟨zk, zi, zt, ⟨za, zn, zc⟩, ⟨ya, yn, yc⟩⟩ _ HV7.out HV7.out).mono ?_; rintro e w8 ⟨rfl, b8⟩; rw [cmpV_refl]; (have HM8 := hid_mk (HMi'.out.below b8)); (have hb8 := hid_mk (hbi'.out.trans (b8.mono hbi'.out.size))); clear b8 HMi' hbi')
          refine ⟨⟨i + 1, ?_, by omega, by omega, HM8, hb8.out⟩, ?_⟩
          · go_num
          · simp [intOf]
            omega
        · go_wp2_with fail
          refine ⟨⟨k + 1, last', ds', l', ?_, by omega, rfl, by omega, hl0', by omega, HMi, hbi⟩, ?_⟩
          · go_num
          · simp [intOf]
            omega
    · obtain rfl : k = m := by omega
      obtain ⟨F4, H4, M4, P4, U4, R4, hBr, _⟩ := HM.out
      have HU4 := hid_mk U4
      have HH4 := hid_mk H4
      have HP4 := hid_mk P4
      have HM4 := hid_mk M4
      clear H4 U4 R4 M4 P4
      go_wp2_with fail
      refine (hget_any w.heap.size p ds last id F4 _ HH4.out HU4.out.1 (by omega)).mono ?_
      rintro e w5 ⟨rfl, b5⟩
      obtain ⟨z, hz⟩ : ∃ z, z = lookD ds id := ⟨_, rfl⟩
      have hsn := look_snd ds id
      rw [← hz] at hsn ⊢
      have hlk0 := HP4.out.look HU4.out.1 id
      rw [← hz] at hlk0
      have hso := HP4.out.some_ id
      rw [← hsn] at hso
      have HSN := hid_mk hsn
      obtain ⟨⟨zk, zi, zt, ⟨za, zn, zc⟩, ⟨ya, yn, yc⟩⟩, zb⟩ := z
      simp only [Rv.agg, Sl.v] at hlk0 hso ⊢
      have b6 := balloc (w := w5) (.cells #[.int .i64 zk, .int .i64 zi, .string zt, .slice za zn zc, .slice ya yn yc] 36)
      have hlk := run_look_ok (P := Tryd.prog) ((HM4.out.below b5).below b6) Tryd.underlying46 Tryd.underlying2 zR.agg (zeroV7 _) id
      simp only [Rv.agg, Sl.v] at hlk
      simp only [zR, Sl.v] at hlk hlk0
      rw [hlk0, hso] at hlk
      have b7 := balloc (w := w5.alloc (.cells #[.int .i64 zk, .int .i64 zi, .string zt, .slice za zn zc, .slice ya yn yc] 36)) (.cells #[.int .i64 zk, .int .i64 zi, .string zt, .slice za zn zc, .slice ya yn yc] 36)
      have HB7 := hid_mk (bthen (bthen b5 b6) b7)
      have HH7 := hid_mk (HH4.out.below HB7.out)
      have hb7 := hid_mk (hb.trans (HB7.out.mono hb.size))
      clear hz hsn hlk0 hso b6 b7 HP4 HM4 HH4 HM HB7 b5 hb
      go_wp2_with (first
        | (go_at_call 19; refine (hset_any w.heap.size p ds last id F4 zR _ HH7.out HU4.out.1 (by omega)).mono ?_; rintro e w8 ⟨rfl, H8, m8⟩; rw [← HSN.out]; (have HH8 := hid_mk H8); (have hb8 := hid_mk (hb7.out.trans (HH7.out.moved m8 hb7.out.size))); clear H8 m8 HH7 hb7)
        | (go_at_call 10; refine (hdel_any w.heap.size p (setD ds id zR) last id F4 _ HH8.out hb8.out.size (HU4.out.set id zR).1 (by have := congrArg List.length (setD_keys ds id zR); simp at this; omega)).mono ?_; rintro e w9 ⟨rfl, F9, H9, m9⟩; rw [has_keys (setD_keys ds id zR), ← HSN.out]; (have hb9 := hid_mk (hb8.out.trans (HH8.out.moved m9 hb8.out.size))); clear H9 m9 HH8 hb8))
      go_ret
      exact ⟨by simp, hb9.out⟩

end Go.Proofs.YtlehgmfpblifkaaDoor
