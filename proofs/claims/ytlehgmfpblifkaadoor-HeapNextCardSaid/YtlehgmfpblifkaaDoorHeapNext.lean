/- The walk over the law HeapNext. -/
import Derived.Test.YtlehgmfpblifkaaDoorHeapDo
namespace Go.Proofs.YtlehgmfpblifkaaDoor
open Go.RowKit
open Go.ChangeMaps (setBlock)
set_option linter.unusedVariables false
attribute [local go_sem ↓] Go.wp_at_zero Go.wp_at_succ

theorem Hp.no_iter {B : Nat} {w : World} {p : Nat} {ds : List Dc} {last : Int} {F : Nat → Prop} (H : Hp B w p ds last F) {I : Nat} {r : Option Nat} {c : Nat} {seen : Array Nat} {d : Nat} (hI : w.heap[I]? = some (.mapIter r c seen d)) {o : Obj} : Hp B (setBlock w I o) p ds last F :=
  H.stays fun k hk => setBlock_other _ fun e => by
    subst e
    obtain ⟨v, h1, h2, h3, rfl⟩ := H
    rcases hk with rfl | hk
    · rw [hI] at h1; cases h1
    · obtain ⟨_, _, cs, fr, hb⟩ := h3.hasT k hk
      rw [hI] at hb; cases hb
theorem RdAll.no_iter {w : World} {ds : List Dc} (h : RdAll w ds) {I : Nat} {r : Option Nat} {c : Nat} {seen : Array Nat} {d : Nat} (hI : w.heap[I]? = some (.mapIter r c seen d)) {o : Obj} : RdAll (setBlock w I o) ds := fun x hx => by
  obtain ⟨v, hv⟩ := h x hx
  refine ⟨v, RdW.kept 4 (by rw [setBlock_size]; exact Nat.le_refl _) (fun b hb => setBlock_other _ fun e => ?_) v x.v hv⟩
  subst e
  rcases hb with ⟨_, _, hb⟩ | ⟨_, _, hb⟩ <;> (rw [hI] at hb; cases hb)
/-- What an entry of the map is. -/
theorem Pr.ent {ds : List Dc} {l : KV} (h : Pr ds l) {k : Int} {u : Value} (hg : kvGet l k = some u) : ∃ x ∈ ds, x.id = k ∧ x.v.agg = u := by
  have hs := h.some_ k
  rw [hg] at hs
  obtain ⟨x, hx, rfl⟩ := has_iff.1 hs.symm
  refine ⟨x, hx, rfl, ?_⟩
  rw [h.get x hx] at hg
  exact Option.some.inj hg
/-! ### How many are behind a number -/
def keyOver (a : Int) (e : MapEntry) : Bool := match e.key with | .int _ k => decide (a < k) | _ => false
def overL (a : Int) (es : Array MapEntry) : Nat := (es.toList.filter (keyOver a)).length
theorem over_push_list (a : Int) (seen : Array Nat) (e : MapEntry) : ∀ (L : List MapEntry), (L.map (·.born)).Nodup → e ∈ L → seen.contains e.born = false →
    ((L.filter fun x => !seen.contains x.born).filter (keyOver a)).length = ((L.filter fun x => !(seen.push e.born).contains x.born).filter (keyOver a)).length + (if keyOver a e = true then 1 else 0)
  | [], _, he, _ => absurd he (by simp)
  | x :: L, hn, he, hs => by
    have hn' := List.nodup_cons.1 hn
    have hc : ∀ y : MapEntry, (seen.push e.born).contains y.born = (decide (y.born = e.born) || seen.contains y.born) := fun y => by
      rw [Array.contains_push, Bool.or_comm]
      (first | rfl | (congr 1 <;> (by_cases h : y.born = e.born <;> simp [h])))
    by_cases hx : x.born = e.born
    · have hxe : e = x := by
        rcases List.mem_cons.1 he with h1 | h1
        · exact h1
        · exact absurd (List.mem_map.2 ⟨e, h1, hx.symm⟩) hn'.1
      subst hxe
      have h2 : (L.filter fun y => !(seen.push e.born).contains y.born) = L.filter fun y => !seen.contains y.born := by
        refine List.filter_congr fun y hy => ?_
        have : ¬ y.born = e.born := fun h => hn'.1 (List.mem_map.2 ⟨y, hy, h⟩)
        rw [hc]; simp [this]
      have h3 : (!(seen.push e.born).contains e.born) = false := by rw [hc]; simp
      rw [List.filter_cons, List.filter_cons, h3, hs, h2]
      simp only [Bool.not_false, if_true, Bool.false_eq_true, if_false, List.filter_cons]
      by_cases hk : keyOver a e = true
      · rw [if_pos hk, if_pos hk]; rfl
      · rw [if_neg hk, if_neg hk]; rfl
    · have hin : e ∈ L := by
        rcases List.mem_cons.1 he with h1 | h1
        · exact absurd (by rw [h1]) hx
        · exact h1
      have ih := over_push_list a seen e L hn'.2 hin hs
      have h3 : (!(seen.push e.born).contains x.born) = !seen.contains x.born := by rw [hc]; simp [hx]
      rw [List.filter_cons, List.filter_cons, h3]
      by_cases h4 : (!seen.contains x.born) = true
      · rw [if_pos h4, if_pos h4, List.filter_cons, List.filter_cons]
        by_cases hk : keyOver a x = true
        · rw [if_pos hk, if_pos hk, List.length_cons, List.length_cons, ih]; omega
        · rw [if_neg hk, if_neg hk, ih]
      · rw [if_neg h4, if_neg h4, ih]
theorem over_push (a : Int) (es : Array MapEntry) (seen : Array Nat) (e : MapEntry) (hn : (es.toList.map (·.born)).Nodup) (he : e ∈ (leftOf es seen).toList) :
    overL a (leftOf es seen) = overL a (leftOf es (seen.push e.born)) + (if keyOver a e = true then 1 else 0) := by
  unfold leftOf at he
  rw [Array.toList_filter, List.mem_filter] at he
  have h1 : seen.contains e.born = false := by simpa using he.2
  unfold overL leftOf
  rw [Array.toList_filter, Array.toList_filter]
  exact over_push_list a seen e es.toList hn he.1 h1
theorem over_start (a : Int) (es : Array MapEntry) : overL a (leftOf es #[]) = overL a es := by
  unfold leftOf
  congr 1
  rw [Array.filter_eq_self]
  intro x _
  simp
theorem over_end (a : Int) {es : Array MapEntry} {seen : Array Nat} (h : (leftOf es seen).size = 0) : overL a (leftOf es seen) = 0 := by
  have h1 : leftOf es seen = #[] := Array.eq_empty_of_size_eq_zero h
  rw [h1]; rfl
theorem sub_len : ∀ (a b : List Int), a.Nodup → (∀ x ∈ a, x ∈ b) → a.length ≤ b.length
  | [], _, _, _ => Nat.zero_le _
  | x :: a, b, hn, hs => by
    have hn' := List.nodup_cons.1 hn
    have hx := hs x (by simp)
    have ih := sub_len a (b.erase x) hn'.2 fun y hy => (List.mem_erase_of_ne (fun e => hn'.1 (by rw [← e]; exact hy))).2 (hs y (by simp [hy]))
    rw [List.length_erase_of_mem hx] at ih
    have : 0 < b.length := List.length_pos_of_mem hx
    simp
    omega
def behind (ds : List Dc) (a : Int) : Nat := (ds.filter fun d => decide (a < d.id)).length
theorem over_behind {ds : List Dc} {l : KV} {es : Array MapEntry} (h : Pr ds l) (hs : Asc ds) (hent : Ent es.toList l) (hkn : (kvKeys l).Nodup) (a : Int) : overL a es = behind ds a := by
  have h1 : overL a es = ((kvKeys l).filter fun k => decide (a < k)).length := by
    unfold overL kvKeys
    have h2 : es.toList.map (·.key) = l.map fun x => Value.int .i64 x.1 := by
      have := congrArg (List.map Prod.fst) hent
      simpa [List.map_map, Function.comp_def] using this
    have h3 : ∀ L : List MapEntry, (L.filter (keyOver a)).length = ((L.map (·.key)).filter fun v => match v with | .int _ k => decide (a < k) | _ => false).length := fun L => by
      rw [List.filter_map, List.length_map]; rfl
    rw [h3, h2, List.filter_map, List.length_map, List.filter_map, List.length_map]
    rfl
  have h2 : behind ds a = ((ds.map (·.id)).filter fun k => decide (a < k)).length := by
    unfold behind
    rw [List.filter_map, List.length_map]; rfl
  have hnd : (ds.map (·.id)).Nodup := by
    have h3 : (ds.map (·.id)).Pairwise (· < ·) := by rw [List.pairwise_map]; exact hs
    exact h3.imp fun h e => by omega
  have hmem : ∀ k, k ∈ kvKeys l ↔ k ∈ ds.map (·.id) := fun k => by
    have hk := h.some_ k
    have h5 : k ∈ kvKeys l ↔ (kvGet l k).isSome = true := by
      have := kvGet_mem l k
      cases hg : kvGet l k with
      | none => rw [hg] at this; simpa using this
      | some u => rw [hg] at this; simpa using this
    rw [h5, hk, has_iff, List.mem_map]
  rw [h1, h2]
  refine Nat.le_antisymm (sub_len _ _ (hkn.sublist List.filter_sublist) fun x hx => ?_) (sub_len _ _ (hnd.sublist List.filter_sublist) fun x hx => ?_)
  · rw [List.mem_filter] at hx ⊢
    exact ⟨(hmem x).1 hx.1, hx.2⟩
  · rw [List.mem_filter] at hx ⊢
    exact ⟨(hmem x).2 hx.1, hx.2⟩
theorem behind_step : ∀ {ds : List Dc} {a : Int} {d : Dc}, Asc ds → d ∈ ds → a < d.id → (∀ x ∈ ds, a < x.id → d.id ≤ x.id) → behind ds a = behind ds d.id + 1
  | [], _, _, _, hd, _, _ => absurd hd (by simp)
  | x :: ds, a, d, hs, hd, ha, hmin => by
    have hs' := List.pairwise_cons.1 hs
    unfold behind
    rw [List.filter_cons, List.filter_cons]
    rcases List.mem_cons.1 hd with rfl | h1
    · have h2 : (ds.filter fun y => decide (a < y.id)) = ds.filter fun y => decide (d.id < y.id) := by
        refine List.filter_congr fun y hy => ?_
        have := hs'.1 y hy
        rw [decide_eq_true this, decide_eq_true (by omega)]
      rw [if_pos (decide_eq_true ha), if_neg (by simp), List.length_cons, h2]
    · have hx := hs'.1 d h1
      have hna : ¬ a < x.id := fun h => by have := hmin x (by simp) h; omega
      rw [if_neg (by simpa using hna), if_neg (by simp; omega)]
      exact behind_step hs'.2 h1 ha fun y hy => hmin y (by simp [hy])
theorem behind_none {ds : List Dc} {a : Int} (h : ∀ x ∈ ds, x.id ≤ a) : behind ds a = 0 := by
  unfold behind
  rw [List.length_eq_zero_iff, List.filter_eq_nil_iff]
  intro x hx
  have := h x hx
  simp; omega
theorem behind_le (ds : List Dc) (a : Int) : behind ds a ≤ ds.length := List.length_filter_le _ _

set_option maxHeartbeats 4000000 in
set_option maxRecDepth 100000 in
theorem heapnext_walk (A : Option Addr) (n cap : Nat) (xs : List A7) (id : Int) (w : World) (hin : InA7 w A n cap xs) (hwf : (Lit.int .i64 id).wf = true) (ht : Tabs w) :
    Calls Tryd.prog 5 #[.slice A n cap, .int .i64 id] w fun e w' => e = .returned (.bool true) ∧ Below w.heap.size w w' := by
  obtain ⟨hxl, hnc, hcap, hoks, hA⟩ := hin
  obtain ⟨m, hmn, hm60, hmm, hmin⟩ := min_fact Tryd.prog n 60 (by omega)
  have hm60' : m ≤ 60 := by omega
  have hmc : m ≤ cap := by omega
  have HOKS := hid_mk hoks
  have HA := hid_mk hA
  have HT := hid_mk ht
  clear hoks hA hxl hmm ht hwf
  go_enter Tryd.func5, Tryd.ntmps5
  go_wp2_with fail
  refine (hawake_any _).mono ?_
  rintro e w1 ⟨rfl, b1⟩
  go_wp2_with fail
  refine (hnew_any _).mono ?_
  rintro e w2 ⟨p, F0, rfl, T2, b2⟩
  have B2 := bthen b1 b2
  obtain ⟨r, hr⟩ : ∃ r, r = w2.heap.size := ⟨_, rfl⟩
  have HM0 : Hid (Hm w.heap.size (w2.alloc (.map #[] 0)) p r [] 0 []) := hid_mk (by
    rw [hr]
    exact ⟨F0, (T2.base b1.size).below (balloc _), map_new w2, Pr.nil, Upto.nil 0, RdAll.nil _, B2.size, by simp; have := B2.size; omega⟩)
  have hb0 : Below w.heap.size w (w2.alloc (.map #[] 0)) := B2.trans ((balloc (w := w2) _).mono B2.size)
  have hmm := @run_makeMap Tryd.prog
  clear T2 b1 b2 B2
  go_wp2_with fail
  clear hmm hmin
  rw [← hr]
  clear hr
  go_loopw [7, 31] (fun ls iv wr => ∃ (k : Nat) (last : Int) (ds : List Dc) (l : KV), iv = .int .i64 k ∧ k ≤ m ∧ ls = .int .i64 last ∧ ds.length ≤ k ∧ 0 ≤ last ∧ last ≤ k ∧ Hid (Hm w.heap.size wr p r ds last l) ∧ Below w.heap.size w wr) (fun _ iv _ => m - (intOf iv).toNat)
  case atStart => exact ⟨0, 0, [], [], rfl, Nat.zero_le _, rfl, Nat.le_refl _, Int.le_refl _, by omega, HM0, hb0⟩
  case round =>
    clear HM0 hb0
    obtain ⟨k, last, ds, l, rfl, hk, rfl, hdl, hl0, hl1, HM, hb⟩ := hrel
    by_cases hlt : k < m
    · obtain ⟨bb, off, rfl, hbw, hcs⟩ := HA.out (by omega)
      obtain ⟨c0, c1, c2⟩ := hcs k (by omega)
      obtain ⟨x, hx⟩ : ∃ x, x = a7 xs k := ⟨_, rfl⟩
      rw [← hx] at c0 c1 c2
      have c0' := keep_cell hb c0
      have c1' := keep_cell hb c1
      have c2' := keep_cell hb c2
      have hok := HOKS.out k (by omega)
      rw [← hx] at hok
      have ba := balloc (w := wr) (.cells #[.int .u8 x.kind, .int .u8 x.id, .slice x.A x.n x.cap] 28)
      have hba := hb.trans (ba.mono hb.size)
      have HOK : Hid (x.ok (wr.alloc (.cells #[.int .u8 x.kind, .int .u8 x.id, .slice x.A x.n x.cap] 28))) := hid_mk ⟨hok.1, hok.2.1, Bytes.of_below hok.2.2 hba⟩
      have HMa := hid_mk (HM.out.below ba)
      have HTa := hid_mk (HT.out.below hba)
      clear hcs c0 c1 c2 hx hok ba HM hb
      go_wp2_with fail
      refine (do_any w.heap.size p r ds last l x _ HMa.out HOK.out HTa.out (by omega) hl0 (by omega)).mono ?_
      rintro e w3 ⟨ds', last', l', rfl, H3, b3, g1, g2, g3⟩
      have hb3 := hba.trans b3
      have HM3 := hid_mk H3
      obtain ⟨F3, H3', M3, P3, U3, R3, _, _⟩ := H3
      have hl0' : 0 ≤ last' := by omega
      clear HMa HOK HTa hba b3 H3' M3 P3 U3 R3 c0' c1' c2'
      go_wp2_with fail
      refine ⟨⟨k + 1, last', ds', l', ?_, by omega, rfl, by omega, hl0', by omega, HM3, hb3⟩, ?_⟩
      · go_num
      · simp [intOf]
        omega
    · obtain rfl : k = m := by omega
      obtain ⟨F5, H5, M5, P5, U5, R5, hBr, hBw⟩ := HM.out
      have HM5 := hid_mk M5
      have HP5 := hid_mk P5
      have HU5 := hid_mk U5
      have HH5 := hid_mk H5
      have HR5 := hid_mk R5
      obtain ⟨es, c, hmb, hent, hnd, hbc, hkn⟩ := M5
      have hrg := run_range_map (P := Tryd.prog) wr 46 2 36 r es c Tryd.underlying46 hmb
      obtain ⟨IT, hIT⟩ : ∃ IT, IT = wr.heap.size := ⟨_, rfl⟩
      obtain ⟨w0, hw0⟩ : ∃ w0, w0 = wr.alloc (.mapIter (some r) c #[] c) := ⟨_, rfl⟩
      have I0 : Hid (w0.heap[IT]? = some (.mapIter (some r) c #[] c)) := hid_mk (by rw [hw0, hIT]; exact heap_alloc_new wr _)
      have M0 : Hid (w0.heap[r]? = some (.map es c)) := hid_mk (by rw [hw0]; exact below_block (balloc _) (lt_of_block hmb) hmb)
      have H0 : Hid (Hp w.heap.size w0 p ds last F5) := hid_mk (by rw [hw0]; exact H5.below (balloc _))
      have R0 : Hid (RdAll w0 ds) := hid_mk (by rw [hw0]; exact R5.below (balloc _))
      have b0 : Hid (Below w.heap.size w w0) := hid_mk (by rw [hw0]; exact hb.trans ((balloc (w := wr) _).mono hb.size))
      have hIw : w.heap.size ≤ IT := by rw [hIT]; exact hb.size
      have hIr : r ≠ IT := by rw [hIT]; have := lt_of_block hmb; omega
      have HK : Hid (∀ e ∈ es.toList, ∃ q : Int, e.key = .int .i64 q) := hid_mk fun e he => by
        obtain ⟨q, u, q1, q2, q3⟩ := ent_mem hent he
        exact ⟨q, q2⟩
      have HTOT : Hid (overL id es = behind ds id) := hid_mk (over_behind P5 U5.1 hent hkn id)
      have hCB := behind_le ds id
      have HENT := hid_mk hent
      have HND := hid_mk hnd
      have HBC := hid_mk hbc
      have HKN := hid_mk hkn
      rw [← hw0, ← hIT] at hrg
      have HW0 := hid_mk hw0
      have HST0 : Hid (0 + overL id (leftOf es #[]) = behind ds id) := hid_mk (by rw [Nat.zero_add, over_start, HTOT.out])
      clear hw0 hIT hnd hbc hkn hent hmb H5 P5 U5 R5 HM5 HH5 HR5 HM hb
      go_wp2_with fail
      go_loopw [12] (fun lv wx => ∃ (seen : Array Nat) (C : Nat), lv = .int .i64 C ∧ Hid (C + overL id (leftOf es seen) = behind ds id) ∧ Hid (wx.heap[IT]? = some (.mapIter (some r) c seen c)) ∧ Hid (wx.heap[r]? = some (.map es c)) ∧ Hid (Hp w.heap.size wx p ds last F5) ∧ Hid (RdAll wx ds) ∧ Hid (Below w.heap.size w wx)) (fun _ wx => (leftOf es (wx.iterSeen IT)).size)
      case atStart => exact ⟨#[], 0, rfl, HST0, I0, M0, H0, R0, b0⟩
      case round =>
        clear I0 M0 H0 R0 b0 hrg HW0 HST0
        obtain ⟨seen, C, rfl, HC, HI, HM, HH, HR, HB⟩ := hrel
        have hsee : wr.iterSeen IT = seen := by unfold World.iterSeen; rw [HI.out]
        have hC : C ≤ 60 := by have := HC.out; omega
        rcases run_next_at (P := Tryd.prog) wr 3 IT r c c seen es c HI.out HM.out HBC.out (Nat.le_refl _) with ⟨h0, hrun⟩ | ⟨e, he, w1, hw1, hrun⟩
        · have hnx : ∀ ty, (Instr.next (.pointer (some ⟨IT, 0, none⟩)) false ty).run Tryd.prog wr = _ := fun _ => hrun
          have hfin : C = behind ds id := by have := HC.out; rw [over_end id h0] at this; omega
          subst hfin
          have HHm : Hid (Hm w.heap.size wr p r ds last l) := hid_mk ⟨F5, HH.out, ⟨es, c, HM.out, HENT.out, HND.out, HBC.out, HKN.out⟩, HP5.out, HU5.out, HR.out, hBr, HB.out.size⟩
          clear hrun h0 hsee HI HM HH HR HC hC
          go_wp2_with fail
          go_loopw [12, 14] (fun lv av wx => ∃ a : Int, av = .int .i64 a ∧ lv = .int .i64 (behind ds a : Nat) ∧ Hid (Hm w.heap.size wx p r ds last l) ∧ Below w.heap.size w wx) (fun lv _ _ => (intOf lv).toNat)
          case atStart => exact ⟨id, rfl, rfl, HHm, HB.out⟩
          case round =>
            clear HHm HB
            obtain ⟨a, rfl, rfl, HHm, hb⟩ := hrel
            obtain ⟨F6, H6, M6, P6, U6, R6, _, _⟩ := HHm.out
            have HH6 := hid_mk H6
            have HM6 := hid_mk M6
            have HP6 := hid_mk P6
            have HR6 := hid_mk R6
            have hbl := behind_le ds a
            clear H6 M6 P6 U6 R6
            go_wp2_with fail
            refine (hnext_any w.heap.size p ds last a F6 _ HH6.out HU5.out.1 (by omega)).mono ?_
            rintro e w3 ⟨rfl, b3⟩
            obtain ⟨z, hz⟩ : ∃ z, z = nextD ds a := ⟨_, rfl⟩
            rw [← hz]
            have HZ := hid_mk hz
            clear hz
            obtain ⟨⟨zi, zk, zj, zt, ⟨la, ln, lc⟩, ⟨fa, fn, fc⟩⟩, zb⟩ := z
            simp only [Dc.agg, Sl.v]
            have bz := balloc (w := w3) (.cells #[.int .i64 zi, .int .i64 zk, .int .i64 zj, .string zt, .slice la ln lc, .slice fa fn fc] 42)
            have bb := bthen b3 bz
            have HB4 := hid_mk bb
            have hb4 := hid_mk (hb.trans (bb.mono hb.size))
            cases zb with
            | false =>
              have hzero : behind ds a = 0 := behind_none (nextD_none HU5.out.1 (by rw [← HZ.out]))
              rw [hzero]
              clear bz bb b3 hb
              go_wp2_with fail
              go_ret
              exact ⟨rfl, hb4.out⟩
            | true =>
              obtain ⟨n1, n2, n3⟩ := nextD_some HU5.out.1 (a := a) (by rw [← HZ.out])
              rw [← HZ.out] at n1 n2 n3
              simp only at n1 n2 n3
              have hstep : behind ds a = behind ds zi + 1 := behind_step (d := ⟨zi, ⟨zk, zj, zt, ⟨la, ln, lc⟩, ⟨fa, fn, fc⟩⟩⟩) HU5.out.1 n1 n2 n3
              have hget := HP6.out.get _ n1
              simp only [Rv.agg, Sl.v] at hget
              have hlk := run_look_ok (P := Tryd.prog) (HM6.out.below bb) Tryd.underlying46 Tryd.underlying2 zR.agg (zeroV7 _) zi
              rw [hget] at hlk
              simp only [Option.getD_some, Option.isSome_some] at hlk
              obtain ⟨v, hv⟩ := HR6.out _ n1
              have hv4 := RdW.below hv bb
              have Yx := heap_alloc_new w3 (.cells #[.int .i64 zi, .int .i64 zk, .int .i64 zj, .string zt, .slice la ln lc, .slice fa fn fc] 42)
              have x0 : (w3.alloc (.cells #[.int .i64 zi, .int .i64 zk, .int .i64 zj, .string zt, .slice la ln lc, .slice fa fn fc] 42)).cell? ⟨w3.heap.size, 0, none⟩ = some (.int .i64 zi) := (cell_of_row _ _ 0 _ _ _ Yx).trans rfl
              have b5 := balloc (w := w3.alloc (.cells #[.int .i64 zi, .int .i64 zk, .int .i64 zj, .string zt, .slice la ln lc, .slice fa fn fc] 42)) (.cells #[.int .i64 zk, .int .i64 zj, .string zt, .slice la ln lc, .slice fa fn fc] 36)
              have Y5 := below_block b5 (lt_of_block Yx) Yx
              have y0 := (cell_of_row _ _ 0 _ _ _ Y5).trans rfl
              have y1 := (cell_of_row _ _ 1 _ _ _ Y5).trans rfl
              have y2 := (cell_of_row _ _ 2 _ _ _ Y5).trans rfl
              have y3 := (cell_of_row _ _ 3 _ _ _ Y5).trans rfl
              have y4 := (cell_of_row _ _ 4 _ _ _ Y5).trans rfl
              have y5 := (cell_of_row _ _ 5 _ _ _ Y5).trans rfl
              have HV5 := hid_mk (RdW.below hv4 b5)
              have HHm5 := hid_mk ((HHm.out.below HB4.out).below b5)
              have hb5 := hid_mk (hb4.out.trans (b5.mono hb4.out.size))
              have HY5 := hid_mk Y5
              have HSTEP := hid_mk hstep
              rw [hstep]
              have hgt : ¬ zi ≤ a := by omega
              have hl0 : ¬ ((behind ds zi + 1 : Nat) : Int) ≤ 0 := by omega
              have hws : IntKind.i64.wrap (((behind ds zi + 1 : Nat) : Int) - 1) = (behind ds zi : Int) := by rw [IntKind.wrap_i64]; omega
              have hws2 : wrap64 (((behind ds zi + 1 : Nat) : Int) - 1) = (behind ds zi : Int) := by unfold wrap64; omega
              obtain ⟨L, hL⟩ : ∃ L, L = behind ds zi + 1 := ⟨_, rfl⟩
              obtain ⟨L2, hL2⟩ : ∃ L2, L2 = behind ds zi := ⟨_, rfl⟩
              rw [← hL] at hl0 hws hws2 ⊢
              rw [← hL2] at hws hws2 hL
              have HL2 := hid_mk hL2
              have hbl2 := behind_le ds zi
              have hwz : wrap64 (L2 : Int) = (L2 : Int) := by unfold wrap64; omega
              clear bz bb b3 hb hget hv hv4 Yx b5 Y5 n1 n2 n3 hstep hL2 HB4 hb4 HHm HH6 HM6 HP6 HR6
              go_wp2_with (go_at_call 16; refine (same_any 4 v v ⟨zk, zj, zt, ⟨la, ln, lc⟩, ⟨fa, fn, fc⟩⟩ ⟨zk, zj, zt, ⟨la, ln, lc⟩, ⟨fa, fn, fc⟩⟩ _ HV5.out HV5.out).mono ?_; rintro e w8 ⟨rfl, b8⟩; rw [cmpV_refl]; (have HM8 := hid_mk (HHm5.out.below b8)); (have hb8 := hid_mk (hb5.out.trans (b8.mono hb5.out.size))); (have Y8 := below_block b8 (lt_of_block HY5.out) HY5.out); (have t0 := (cell_of_row _ _ 0 _ _ _ Y8).trans rfl); clear b8 HHm5 hb5 y0 y1 y2 y3 y4 y5 Y8 HY5 HV5)
              refine ⟨⟨zi, rfl, ?_, HM8, hb8.out⟩, ?_⟩
              · rw [hwz, HL2.out]
              · rw [hwz]
                have q1 : L2 < behind ds a := by rw [HSTEP.out, ← HL2.out]; exact Nat.lt_succ_self _
                show (L2 : Int).toNat < (behind ds a : Int).toNat
                rw [Int.toNat_natCast, Int.toNat_natCast]
                exact q1
        · obtain ⟨q, hkey⟩ := HK.out e (mem_left he).1
          have hheap : w1.heap = wr.heap := by rcases hw1 with rfl | rfl <;> rfl
          have hbw1 : Below w.heap.size w w1 := by
            rcases hw1 with rfl | rfl
            · exact HB.out
            · exact pw_below (n := 1) HB.out
          have HH1 : Hp w.heap.size w1 p ds last F5 := HH.out.stays fun k _ => by rw [hheap]
          have HR1 : RdAll w1 ds := fun y hy => by
            obtain ⟨v, hv⟩ := HR.out y hy
            exact ⟨v, RdW.kept 4 (by rw [hheap]; exact Nat.le_refl _) (fun b _ => by rw [hheap]) v y.v hv⟩
          obtain ⟨w2, hw2⟩ : ∃ w2, w2 = setBlock w1 IT (.mapIter (some r) c (seen.push e.born) c) := ⟨_, rfl⟩
          rw [← hw2, hkey] at hrun
          have hI1 : w1.heap[IT]? = some (.mapIter (some r) c seen c) := by rw [hheap]; exact HI.out
          have hIlt : IT < w1.heap.size := lt_of_block hI1
          have I2 : w2.heap[IT]? = some (.mapIter (some r) c (seen.push e.born) c) := by rw [hw2]; exact setBlock_at _ hIlt
          have M2 : w2.heap[r]? = some (.map es c) := by rw [hw2, setBlock_other _ hIr, hheap]; exact HM.out
          have H2 : Hp w.heap.size w2 p ds last F5 := by rw [hw2]; exact HH1.no_iter hI1
          have R2 : RdAll w2 ds := by rw [hw2]; exact HR1.no_iter hI1
          have b2 : Below w.heap.size w w2 := by
            rw [hw2]
            exact below_grown hbw1 hIw hbw1.size (setBlock_grown _)
          have hen := run_entry_at (P := Tryd.prog) w2 IT r c seen es c e I2 M2 (mem_left he).1 HND.out
          rw [hkey] at hen
          have hnx : ∀ ty, (Instr.next (.pointer (some ⟨IT, 0, none⟩)) false ty).run Tryd.prog wr = _ := fun _ => hrun
          have hpush := over_push id es seen e HND.out he
          have hko : keyOver id e = decide (id < q) := by unfold keyOver; rw [hkey]
          rw [hko] at hpush
          have hmeas : (leftOf es (w2.iterSeen IT)).size < (leftOf es (wr.iterSeen IT)).size := by
            rw [hsee, show w2.iterSeen IT = seen.push e.born by unfold World.iterSeen; rw [I2]]
            exact left_shrinks es seen e he
          have HMEAS := hid_mk hmeas
          have HI2 := hid_mk I2
          have HM2 := hid_mk M2
          have HH2 := hid_mk H2
          have HR2 := hid_mk R2
          have HB2 := hid_mk b2
          by_cases hgt : id < q
          · have HC2 : Hid (C + 1 + overL id (leftOf es (seen.push e.born)) = behind ds id) := hid_mk (by
              have := HC.out
              rw [if_pos (decide_eq_true hgt)] at hpush
              omega)
            clear hrun hw2 I2 M2 H2 R2 b2 hmeas hsee hw1 hheap hbw1 hIlt HI HM HH HR HB hpush hko HC HH1 HR1 hI1 he hkey
            go_wp2_with fail
            exact ⟨⟨_, C + 1, by go_num, HC2, HI2, HM2, HH2, HR2, HB2⟩, HMEAS.out⟩
          · have HC2 : Hid (C + overL id (leftOf es (seen.push e.born)) = behind ds id) := hid_mk (by
              have := HC.out
              rw [if_neg (by simpa using hgt)] at hpush
              omega)
            clear hrun hw2 I2 M2 H2 R2 b2 hmeas hsee hw1 hheap hbw1 hIlt HI HM HH HR HB hpush hko HC HH1 HR1 hI1 he hkey
            go_wp2_with fail
            exact ⟨⟨_, C, rfl, HC2, HI2, HM2, HH2, HR2, HB2⟩, HMEAS.out⟩

end Go.Proofs.YtlehgmfpblifkaaDoor
