/- The walk over the law HeapOther. -/
import Derived.Test.YtlehgmfpblifkaaDoorHeapDo
namespace Go.Proofs.YtlehgmfpblifkaaDoor
open Go.RowKit
open Go.ChangeMaps (setBlock)
set_option linter.unusedVariables false
attribute [local go_sem ↓] Go.wp_at_zero Go.wp_at_succ

theorem Hp.no_iter {B : Nat} {w : World} {p : Nat} {ds : List Dc} {last : Int} {F : Nat → Prop} (H : Hp B w p ds last F) {I : Nat} {r : Option Nat} {c : Nat} {seen : Array Nat} {d : Nat} (hI : w.heap[I]? = some (.mapIter r c seen d)) {o : Obj} : Hp B (setBlock w I o) p ds last F :=
  H.stays fun k hk => setBlock_other _ fun e => by
    subst e
    obtain ⟨v, h1, h2, h3, rfl⟩ := H
    rcases hk with rfl | hk
    · rw [hI] at h1; cases h1
    · obtain ⟨_, _, cs, fr, hb⟩ := h3.hasT k hk
      rw [hI] at hb; cases hb
theorem RdAll.no_iter {w : World} {ds : List Dc} (h : RdAll w ds) {I : Nat} {r : Option Nat} {c : Nat} {seen : Array Nat} {d : Nat} (hI : w.heap[I]? = some (.mapIter r c seen d)) {o : Obj} : RdAll (setBlock w I o) ds := fun x hx => by
  obtain ⟨v, hv⟩ := h x hx
  refine ⟨v, RdW.kept 4 (by rw [setBlock_size]; exact Nat.le_refl _) (fun b hb => setBlock_other _ fun e => ?_) v x.v hv⟩
  subst e
  rcases hb with ⟨_, _, hb⟩ | ⟨_, _, hb⟩ <;> (rw [hI] at hb; cases hb)
/-- What an entry of the map is. -/
theorem Pr.ent {ds : List Dc} {l : KV} (h : Pr ds l) {k : Int} {u : Value} (hg : kvGet l k = some u) : ∃ x ∈ ds, x.id = k ∧ x.v.agg = u := by
  have hs := h.some_ k
  rw [hg] at hs
  obtain ⟨x, hx, rfl⟩ := has_iff.1 hs.symm
  refine ⟨x, hx, rfl, ?_⟩
  rw [h.get x hx] at hg
  exact Option.some.inj hg
theorem other_kept {ds : List Dc} (hs : Asc ds) {x : Dc} (hx : x ∈ ds) (k k2 : Int) (v : Rv) (h1 : x.id ≠ k) (h2 : x.id ≠ k2) : lookD (delD (setD ds k v) k2) x.id = (x.v, true) := by
  have hs1 := asc_keys (setD_keys ds k v) hs
  have hx1 : x ∈ setD ds k v := by
    unfold setD
    by_cases h : hasD ds k = true
    · rw [if_pos h]
      obtain ⟨hk, he⟩ := has_at hs h
      obtain ⟨j, hj, rfl⟩ := List.getElem_of_mem hx
      by_cases hjk : posD ds k = j
      · subst hjk
        rw [← gc_get ds _ hj] at h1
        exact absurd he h1
      · have := List.getElem_set_ne hjk (a := (⟨(gc ds (posD ds k)).id, v⟩ : Dc)) (l := ds) (by simpa using hj)
        rw [← this]
        exact List.getElem_mem _
    · rw [if_neg h]; exact hx
  have hx2 := delD_mem hs1 k2 hx1 h2
  exact look_mem (List.Pairwise.sublist (delD_sub _ k2) hs1) hx2

set_option maxHeartbeats 4000000 in
set_option maxRecDepth 100000 in
theorem heapother_walk (A : Option Addr) (n cap : Nat) (xs : List A7) (Ab : Option Addr) (nb capb : Nat) (zs : List Int) (id : Int) (w : World) (hin : InA7 w A n cap xs) (hbs : Bytes w.heap.size w Ab nb capb zs) (hwf : (Lit.int .u8 id).wf = true) (ht : Tabs w) :
    Calls Tryd.prog 7 #[.slice A n cap, .slice Ab nb capb, .int .u8 id] w fun e w' => e = .returned (.bool true) ∧ Below w.heap.size w w' := by
  obtain ⟨hxl, hnc, hcap, hoks, hA⟩ := hin
  obtain ⟨m, hmn, hm60, hmm, hmin⟩ := min_fact Tryd.prog n 60 (by omega)
  have hm60' : m ≤ 60 := by omega
  have hmc : m ≤ cap := by omega
  have HOKS := hid_mk hoks
  have HA := hid_mk hA
  have HT := hid_mk ht
  have hid := wf_u8 hwf
  obtain ⟨kk, hkk⟩ : ∃ kk : Int, id % 24 = kk := ⟨_, rfl⟩
  have hk0 : 0 ≤ kk := by rw [← hkk]; exact Int.emod_nonneg _ (by omega)
  have hk1 : kk < 24 := by rw [← hkk]; exact Int.emod_lt_of_pos _ (by omega)
  have hwk : wrap64 kk = kk := by unfold wrap64; omega
  have hwk1 : IntKind.i64.wrap (kk + 1) = kk + 1 := by rw [IntKind.wrap_i64]; omega
  have hwk2 : wrap64 (kk + 1) = kk + 1 := by unfold wrap64; omega
  have HBS := hid_mk hbs
  clear hoks hA hxl hmm ht hwf hbs
  go_enter Tryd.func7, Tryd.ntmps7
  go_wp2_with fail
  refine (hawake_any _).mono ?_
  rintro e w1 ⟨rfl, b1⟩
  go_wp2_with fail
  refine (hnew_any _).mono ?_
  rintro e w2 ⟨p, F0, rfl, T2, b2⟩
  have B2 := bthen b1 b2
  obtain ⟨r, hr⟩ : ∃ r, r = w2.heap.size := ⟨_, rfl⟩
  have HM0 : Hid (Hm w.heap.size (w2.alloc (.map #[] 0)) p r [] 0 []) := hid_mk (by
    rw [hr]
    exact ⟨F0, (T2.base b1.size).below (balloc _), map_new w2, Pr.nil, Upto.nil 0, RdAll.nil _, B2.size, by simp; have := B2.size; omega⟩)
  have hb0 : Below w.heap.size w (w2.alloc (.map #[] 0)) := B2.trans ((balloc (w := w2) _).mono B2.size)
  have hmm := @run_makeMap Tryd.prog
  clear T2 b1 b2 B2
  go_wp2_with fail
  clear hmm hmin
  rw [← hr]
  clear hr
  go_loopw [9, 31] (fun ls iv wr => ∃ (k : Nat) (last : Int) (ds : List Dc) (l : KV), iv = .int .i64 k ∧ k ≤ m ∧ ls = .int .i64 last ∧ ds.length ≤ k ∧ 0 ≤ last ∧ last ≤ k ∧ Hid (Hm w.heap.size wr p r ds last l) ∧ Below w.heap.size w wr) (fun _ iv _ => m - (intOf iv).toNat)
  case atStart => exact ⟨0, 0, [], [], rfl, Nat.zero_le _, rfl, Nat.le_refl _, Int.le_refl _, by omega, HM0, hb0⟩
  case round =>
    clear HM0 hb0
    obtain ⟨k, last, ds, l, rfl, hk, rfl, hdl, hl0, hl1, HM, hb⟩ := hrel
    by_cases hlt : k < m
    · obtain ⟨bb, off, rfl, hbw, hcs⟩ := HA.out (by omega)
      obtain ⟨c0, c1, c2⟩ := hcs k (by omega)
      obtain ⟨x, hx⟩ : ∃ x, x = a7 xs k := ⟨_, rfl⟩
      rw [← hx] at c0 c1 c2
      have c0' := keep_cell hb c0
      have c1' := keep_cell hb c1
      have c2' := keep_cell hb c2
      have hok := HOKS.out k (by omega)
      rw [← hx] at hok
      have ba := balloc (w := wr) (.cells #[.int .u8 x.kind, .int .u8 x.id, .slice x.A x.n x.cap] 28)
      have hba := hb.trans (ba.mono hb.size)
      have HOK : Hid (x.ok (wr.alloc (.cells #[.int .u8 x.kind, .int .u8 x.id, .slice x.A x.n x.cap] 28))) := hid_mk ⟨hok.1, hok.2.1, Bytes.of_below hok.2.2 hba⟩
      have HMa := hid_mk (HM.out.below ba)
      have HTa := hid_mk (HT.out.below hba)
      clear hcs c0 c1 c2 hx hok ba HM hb
      go_wp2_with fail
      refine (do_any w.heap.size p r ds last l x _ HMa.out HOK.out HTa.out (by omega) hl0 (by omega)).mono ?_
      rintro e w3 ⟨ds', last', l', rfl, H3, b3, g1, g2, g3⟩
      have hb3 := hba.trans b3
      have HM3 := hid_mk H3
      obtain ⟨F3, H3', M3, P3, U3, R3, _, _⟩ := H3
      have hl0' : 0 ≤ last' := by omega
      clear HMa HOK HTa hba b3 H3' M3 P3 U3 R3 c0' c1' c2'
      go_wp2_with fail
      refine ⟨⟨k + 1, last', ds', l', ?_, by omega, rfl, by omega, hl0', by omega, HM3, hb3⟩, ?_⟩
      · go_num
      · simp [intOf]
        omega
    · obtain rfl : k = m := by omega
      have HBr := hid_mk (Bytes.of_below HBS.out hb)
      have HTr := hid_mk (HT.out.below hb)
      go_wp2_with fail
      refine (of_any Ab nb capb zs _ HBr.out HTr.out).mono ?_
      rintro e w3 ⟨v, rv, rfl, D3, G3, b3⟩
      obtain ⟨F3, H3, M3, P3, U3, R3, hBr, hBw⟩ := HM.out.below b3
      have HH3 := hid_mk H3
      have hb3 := hb.trans (b3.mono hb.size)
      have HM3 := hid_mk M3
      have HU3 := hid_mk U3
      have HP3 := hid_mk P3
      have HR3 := hid_mk R3
      obtain ⟨rk, ri, rt, ⟨la, ln, lc⟩, ⟨fa, fn, fc⟩⟩ := rv
      simp only [Rv.agg, Sl.v]
      clear D3 G3 b3 H3 M3 P3 U3 R3 HBr HTr HM hb
      go_wp2_with fail
      try simp only [hkk, hwk]
      refine (hset_any w.heap.size p ds last kk F3 ⟨rk, ri, rt, ⟨la, ln, lc⟩, ⟨fa, fn, fc⟩⟩ _ HH3.out HU3.out.1 (by omega)).mono ?_
      rintro e w4 ⟨rfl, H4, m4⟩
      obtain ⟨ds1, hds1⟩ : ∃ ds1, ds1 = setD ds kk ⟨rk, ri, rt, ⟨la, ln, lc⟩, ⟨fa, fn, fc⟩⟩ := ⟨_, rfl⟩
      rw [← hds1] at H4
      have HH4 := hid_mk H4
      have HM4 := hid_mk (HM3.out.mv m4 (HH3.out.no_map HM3.out))
      have HR4 := hid_mk (HR3.out.mv HH3.out m4)
      have hb4 := hb3.trans (HH3.out.moved m4 hb3.size)
      have HU4 : Hid (Upto ds1 last) := hid_mk (by rw [hds1]; exact HU3.out.set _ _)
      have hlen1 : ds1.length = ds.length := by
        have := congrArg List.length (setD_keys ds kk ⟨rk, ri, rt, ⟨la, ln, lc⟩, ⟨fa, fn, fc⟩⟩)
        rw [← hds1] at this
        simpa using this
      have HD1 := hid_mk hds1
      clear H4 m4 HH3 HM3 HR3 hb3 hds1
      go_wp2_with fail
      refine (hdel_any w.heap.size p ds1 last (kk + 1) F3 _ HH4.out hb4.size HU4.out.1 (by omega)).mono ?_
      rintro e w5 ⟨rfl, F5, H5, m5⟩
      obtain ⟨ds2, hds2⟩ : ∃ ds2, ds2 = delD ds1 (kk + 1) := ⟨_, rfl⟩
      have hlen2 : ds2.length ≤ ds1.length := by rw [hds2]; exact delD_le _ _
      rw [← hds2] at H5
      have HH5 := hid_mk H5
      have HM5 := hid_mk (HM4.out.mv m5 (HH4.out.no_map HM4.out))
      have HR5 := hid_mk (HR4.out.mv HH4.out m5)
      have hb5 := hb4.trans (HH4.out.moved m5 hb4.size)
      have HU5 : Hid (Upto ds2 last) := hid_mk (by rw [hds2]; exact HU4.out.del _)
      have HLK : Hid (∀ x ∈ ds, x.id ≠ kk → x.id ≠ kk + 1 → lookD ds2 x.id = (x.v, true)) := hid_mk fun x hx h1 h2 => by
        rw [hds2, HD1.out]; exact other_kept HU3.out.1 hx _ _ _ h1 h2
      clear H5 m5 HH4 HM4 HR4 hb4 hds2 HU4 HD1
      obtain ⟨es, c, hmb, hent, hnd, hbc, hkn⟩ := HM5.out
      have hrg := run_range_map (P := Tryd.prog) w5 46 2 36 r es c Tryd.underlying46 hmb
      obtain ⟨IT, hIT⟩ : ∃ IT, IT = w5.heap.size := ⟨_, rfl⟩
      obtain ⟨w0, hw0⟩ : ∃ w0, w0 = w5.alloc (.mapIter (some r) c #[] c) := ⟨_, rfl⟩
      have I0 : Hid (w0.heap[IT]? = some (.mapIter (some r) c #[] c)) := hid_mk (by rw [hw0, hIT]; exact heap_alloc_new w5 _)
      have M0 : Hid (w0.heap[r]? = some (.map es c)) := hid_mk (by rw [hw0]; exact below_block (balloc _) (lt_of_block hmb) hmb)
      have H0 : Hid (Hp w.heap.size w0 p ds2 last F5) := hid_mk (by rw [hw0]; exact HH5.out.below (balloc _))
      have R0 : Hid (RdAll w0 ds) := hid_mk (by rw [hw0]; exact HR5.out.below (balloc _))
      have b0 : Hid (Below w.heap.size w w0) := hid_mk (by rw [hw0]; exact hb5.trans ((balloc (w := w5) _).mono hb5.size))
      have hIw : w.heap.size ≤ IT := by rw [hIT]; exact hb5.size
      have hIr : r ≠ IT := by rw [hIT]; have := lt_of_block hmb; omega
      have HK : Hid (∀ e ∈ es.toList, ∃ x ∈ ds, e.key = .int .i64 x.id ∧ e.val = x.v.agg) := hid_mk fun e he => by
        obtain ⟨q, u, q1, q2, q3⟩ := ent_mem hent he
        obtain ⟨x, hx, h1, h2⟩ := HP3.out.ent (kv_get_mem hkn q1)
        exact ⟨x, hx, by rw [q2, h1], by rw [q3, h2]⟩
      have HND := hid_mk hnd
      have HBC := hid_mk hbc
      rw [← hw0, ← hIT] at hrg
      have HW0 := hid_mk hw0
      clear hw0 hIT hnd hbc hkn hent hmb HM5 HR5 HH5 hb5
      go_wp2_with fail
      go_loopw [] (fun wx => ∃ seen : Array Nat, Hid (wx.heap[IT]? = some (.mapIter (some r) c seen c)) ∧ Hid (wx.heap[r]? = some (.map es c)) ∧ Hid (Hp w.heap.size wx p ds2 last F5) ∧ Hid (RdAll wx ds) ∧ Hid (Below w.heap.size w wx)) (fun wx => (leftOf es (wx.iterSeen IT)).size)
      case atStart => exact ⟨#[], I0, M0, H0, R0, b0⟩
      case round =>
        clear I0 M0 H0 R0 b0 hrg HW0
        obtain ⟨seen, HI, HM, HH, HR, HB⟩ := hrel
        have hsee : wr.iterSeen IT = seen := by unfold World.iterSeen; rw [HI.out]
        rcases run_next_at (P := Tryd.prog) wr 3 IT r c c seen es c HI.out HM.out HBC.out (Nat.le_refl _) with ⟨h0, hrun⟩ | ⟨e, he, w1, hw1, hrun⟩
        · have hnx : ∀ ty, (Instr.next (.pointer (some ⟨IT, 0, none⟩)) false ty).run Tryd.prog wr = _ := fun _ => hrun
          clear hrun h0 hsee
          go_wp2_with fail
          go_ret
          exact ⟨rfl, HB.out⟩
        · obtain ⟨x, hx, hkey, hval⟩ := HK.out e (mem_left he).1
          have hheap : w1.heap = wr.heap := by rcases hw1 with rfl | rfl <;> rfl
          have hbw1 : Below w.heap.size w w1 := by
            rcases hw1 with rfl | rfl
            · exact HB.out
            · exact pw_below (n := 1) HB.out
          have HH1 : Hp w.heap.size w1 p ds2 last F5 := HH.out.stays fun k _ => by rw [hheap]
          have HR1 : RdAll w1 ds := fun y hy => by
            obtain ⟨v, hv⟩ := HR.out y hy
            exact ⟨v, RdW.kept 4 (by rw [hheap]; exact Nat.le_refl _) (fun b _ => by rw [hheap]) v y.v hv⟩
          obtain ⟨w2, hw2⟩ : ∃ w2, w2 = setBlock w1 IT (.mapIter (some r) c (seen.push e.born) c) := ⟨_, rfl⟩
          rw [← hw2, hkey] at hrun
          have hI1 : w1.heap[IT]? = some (.mapIter (some r) c seen c) := by rw [hheap]; exact HI.out
          have hIlt : IT < w1.heap.size := lt_of_block hI1
          have I2 : w2.heap[IT]? = some (.mapIter (some r) c (seen.push e.born) c) := by rw [hw2]; exact setBlock_at _ hIlt
          have M2 : w2.heap[r]? = some (.map es c) := by rw [hw2, setBlock_other _ hIr, hheap]; exact HM.out
          have H2 : Hp w.heap.size w2 p ds2 last F5 := by rw [hw2]; exact HH1.no_iter hI1
          have R2 : RdAll w2 ds := by rw [hw2]; exact HR1.no_iter hI1
          have b2 : Below w.heap.size w w2 := by
            rw [hw2]
            exact below_grown hbw1 hIw hbw1.size (setBlock_grown _)
          have hen := run_entry_at (P := Tryd.prog) w2 IT r c seen es c e I2 M2 (mem_left he).1 HND.out
          rw [hkey, hval] at hen
          have hnx : ∀ ty, (Instr.next (.pointer (some ⟨IT, 0, none⟩)) false ty).run Tryd.prog wr = _ := fun _ => hrun
          obtain ⟨v, hv⟩ := R2 x hx
          have hlk := fun h1 h2 => HLK.out x hx h1 h2
          obtain ⟨xi, ⟨rk, ri, rt, ⟨la, ln, lc⟩, ⟨fa, fn, fc⟩⟩⟩ := x
          simp only [Rv.agg, Sl.v] at hen hkey hlk
          have b3 := balloc (w := w2) (.cells #[.int .i64 rk, .int .i64 ri, .string rt, .slice la ln lc, .slice fa fn fc] 36)
          have H3 := hid_mk (H2.below b3)
          have R3 := hid_mk (R2.below b3)
          have V3 := hid_mk (RdW.below hv b3)
          have I3 := hid_mk (below_block b3 (lt_of_block I2) I2)
          have M3 := hid_mk (below_block b3 (lt_of_block M2) M2)
          have B3 := hid_mk (b2.trans (b3.mono b2.size))
          have Y3 := hid_mk (heap_alloc_new w2 (.cells #[.int .i64 rk, .int .i64 ri, .string rt, .slice la ln lc, .slice fa fn fc] 36))
          have hmeas : (leftOf es ((seen.push e.born))).size < (leftOf es (wr.iterSeen IT)).size := by
            rw [hsee]
            exact left_shrinks es seen e he
          have HMEAS := hid_mk hmeas
          have HLK1 := hid_mk hlk
          have hz2 : w.heap.size ≤ w2.heap.size := b2.size
          clear hrun hw2 I2 M2 H2 R2 b2 hmeas hsee hw1 hheap hbw1 hIlt HI HM HH HR HB hx hv hval hlk HH1 HR1 hI1 b3 he hkey
          go_wp2_with fail
          refine (hget_any w.heap.size p ds2 last xi F5 _ H3.out HU5.out.1 (by omega)).mono ?_
          rintro e5 w5 ⟨rfl, b5⟩
          obtain ⟨z, hz⟩ : ∃ z, z = lookD ds2 xi := ⟨_, rfl⟩
          rw [← hz] at HLK1 ⊢
          clear hz
          obtain ⟨⟨zk, zi, zt, ⟨za, zn, zc⟩, ⟨ya, yn, yc⟩⟩, zb⟩ := z
          simp only [Rv.agg, Sl.v]
          have b6 := balloc (w := w5) (.cells #[.int .i64 zk, .int .i64 zi, .string zt, .slice za zn zc, .slice ya yn yc] 36)
          have b7 := bthen b5 b6
          have Z6 := heap_alloc_new w5 (.cells #[.int .i64 zk, .int .i64 zi, .string zt, .slice za zn zc, .slice ya yn yc] 36)
          have Y6 := below_block b7 (lt_of_block Y3.out) Y3.out
          have x0 := (cell_of_row _ _ 0 _ _ _ Z6).trans rfl
          have x1 := (cell_of_row _ _ 1 _ _ _ Z6).trans rfl
          have x2 := (cell_of_row _ _ 2 _ _ _ Z6).trans rfl
          have x3 := (cell_of_row _ _ 3 _ _ _ Z6).trans rfl
          have x4 := (cell_of_row _ _ 4 _ _ _ Z6).trans rfl
          have y0 := (cell_of_row _ _ 0 _ _ _ Y6).trans rfl
          have y1 := (cell_of_row _ _ 1 _ _ _ Y6).trans rfl
          have y2 := (cell_of_row _ _ 2 _ _ _ Y6).trans rfl
          have y3 := (cell_of_row _ _ 3 _ _ _ Y6).trans rfl
          have y4 := (cell_of_row _ _ 4 _ _ _ Y6).trans rfl
          have H6 := hid_mk (H3.out.below b7)
          have R6 := hid_mk (R3.out.below b7)
          have V6 := hid_mk (V3.out.below b7)
          have I6 := hid_mk (below_block b7 (lt_of_block I3.out) I3.out)
          have M6 := hid_mk (below_block b7 (lt_of_block M3.out) M3.out)
          have B6 := hid_mk (B3.out.trans (b7.mono B3.out.size))
          clear H3 R3 V3 I3 M3 B3 Y3 b5 b6 b7 Z6 Y6
          by_cases h1 : xi = kk
          · subst h1
            go_wp2_with fail
            exact ⟨⟨_, I6, M6, H6, R6, B6⟩, by rw [show World.iterSeen _ IT = seen.push e.born by unfold World.iterSeen; rw [I6.out]]; exact HMEAS.out⟩
          · by_cases h2 : xi = kk + 1
            · subst h2
              go_wp2_with fail
              exact ⟨⟨_, I6, M6, H6, R6, B6⟩, by rw [show World.iterSeen _ IT = seen.push e.born by unfold World.iterSeen; rw [I6.out]]; exact HMEAS.out⟩
            · have h3 := HLK1.out h1 h2
              simp only [Prod.mk.injEq, Rv.mk.injEq, Sl.mk.injEq] at h3
              obtain ⟨⟨rfl, rfl, rfl, ⟨rfl, rfl, rfl⟩, rfl, rfl, rfl⟩, rfl⟩ := h3
              have g1 : (xi != kk) = true := by simpa using h1
              have g2 : (xi != kk + 1) = true := by simpa using h2
              go_wp2_with (go_at_call 16; refine (same_any 4 v v ⟨zk, zi, zt, ⟨za, zn, zc⟩, ⟨ya, yn, yc⟩⟩ ⟨zk, zi, zt, ⟨za, zn, zc⟩, ⟨ya, yn, yc⟩⟩ _ V6.out V6.out).mono ?_; rintro e w8 ⟨rfl, b8⟩; rw [cmpV_refl]; (have H8 := hid_mk (H6.out.below b8)); (have R8 := hid_mk (R6.out.below b8)); (have I8 := hid_mk (below_block b8 (lt_of_block I6.out) I6.out)); (have M8 := hid_mk (below_block b8 (lt_of_block M6.out) M6.out)); (have B8 := hid_mk (B6.out.trans (b8.mono B6.out.size))); clear b8 H6 R6 I6 M6 B6)
              exact ⟨⟨_, I8, M8, H8, R8, B8⟩, by rw [show World.iterSeen _ IT = seen.push e.born by unfold World.iterSeen; rw [I8.out]]; exact HMEAS.out⟩

end Go.Proofs.YtlehgmfpblifkaaDoor
