/- The walk over the law SideLast. -/
import Derived.Test.YtaoamkkgiiiejaaSidePure
import Derived.Test.YtaoamkkgiiiejaaMapE
namespace Go.Proofs.Ytaoamkkgiiiejaa
open Go.RowKit
open Go.ChangeMaps (setBlock)
set_option linter.unusedVariables false
attribute [local go_sem ↓] Go.wp_at_zero Go.wp_at_succ

/-! ### The plain law -/
/-- The map says who is in the tree. -/
def WantR (M : KE) (L : List E) : Prop := ∀ e, (keGet M e).getD false = decide (e ∈ L)
theorem WantR.nil : WantR [] [] := fun e => by simp [keGet]
theorem WantR.put {M : KE} {L : List E} (h : WantR M L) (hs : Srt L) (d : D) : WantR (kePut M d.e d.add) (did L d) := fun f => by
  rw [keGet_put, mem_did hs]
  by_cases hf : f = d.e
  · rw [if_pos hf, if_pos hf.symm]; rfl
  · rw [if_neg hf, if_neg (fun h9 => hf h9.symm)]; exact h f
theorem sub_len : ∀ (a b : List E), a.Nodup → (∀ x ∈ a, x ∈ b) → a.length ≤ b.length
  | [], b, _, _ => Nat.zero_le _
  | x :: a, b, hn, hs => by
    obtain ⟨h1, h2⟩ := List.nodup_cons.1 hn
    have hx := hs x (List.mem_cons_self ..)
    have ih := sub_len a (b.erase x) h2 (fun y hy => (List.mem_erase_of_ne (fun e => h1 (by rw [← e]; exact hy))).2 (hs y (List.mem_cons_of_mem _ hy)))
    rw [List.length_erase_of_mem hx] at ih
    have : 0 < b.length := List.length_pos_of_mem hx
    rw [List.length_cons]; omega
theorem srt_nodup {L : List E} (h : Srt L) : L.Nodup := h.imp fun {a b} hab e => by subst e; exact lt_irrefl _ hab
theorem want_len {M : KE} {L : List E} (h : WantR M L) (hn : (keKeys M).Nodup) (hs : Srt L) : (M.filter (·.2)).length = L.length := by
  have h1 : ∀ e, e ∈ (M.filter (·.2)).map (·.1) ↔ e ∈ L := fun e => by
    have he := h e
    rw [List.mem_map]
    constructor
    · rintro ⟨x, hx, rfl⟩
      obtain ⟨hx1, hx2⟩ := List.mem_filter.1 hx
      rw [keGet_mem (b := x.2) hn hx1] at he
      have h9 : x.2 = decide (x.1 ∈ L) := he
      rw [hx2] at h9
      exact of_decide_eq_true h9.symm
    · intro hL
      rw [decide_eq_true hL] at he
      cases hg : keGet M e with
      | none => rw [hg] at he; cases he
      | some b =>
        rw [hg] at he
        have h9 : b = true := he
        subst h9
        exact ⟨(e, true), List.mem_filter.2 ⟨keGet_key hg, rfl⟩, rfl⟩
  have h2 : ((M.filter (·.2)).map (·.1)).Nodup := List.Nodup.sublist ((List.filter_sublist (l := M) (p := (·.2))).map (·.1)) hn
  have h3 := sub_len _ L h2 fun x hx => (h1 x).1 hx
  have h4 := sub_len L _ (srt_nodup hs) fun x hx => (h1 x).2 hx
  rw [List.length_map] at h3 h4
  omega
/-! ### How many are true -/
def isT (e : MapEntry) : Bool := match e.val with | .bool b => b | _ => false
def trueL (es : Array MapEntry) : Nat := (es.toList.filter isT).length
theorem true_push_list (seen : Array Nat) (e : MapEntry) : ∀ (L : List MapEntry), (L.map (·.born)).Nodup → e ∈ L → seen.contains e.born = false →
    ((L.filter fun x => !seen.contains x.born).filter isT).length = ((L.filter fun x => !(seen.push e.born).contains x.born).filter isT).length + (if isT e = true then 1 else 0)
  | [], _, he, _ => absurd he (by simp)
  | x :: L, hn, he, hs => by
    have hn' := List.nodup_cons.1 hn
    have hc : ∀ y : MapEntry, (seen.push e.born).contains y.born = (decide (y.born = e.born) || seen.contains y.born) := fun y => by
      rw [Array.contains_push, Bool.or_comm]
      (first | rfl | (congr 1 <;> (by_cases h : y.born = e.born <;> simp [h])))
    by_cases hx : x.born = e.born
    · have hxe : e = x := by
        rcases List.mem_cons.1 he with h1 | h1
        · exact h1
        · exact absurd (List.mem_map.2 ⟨e, h1, hx.symm⟩) hn'.1
      subst hxe
      have h2 : (L.filter fun y => !(seen.push e.born).contains y.born) = L.filter fun y => !seen.contains y.born := by
        refine List.filter_congr fun y hy => ?_
        have : ¬ y.born = e.born := fun h => hn'.1 (List.mem_map.2 ⟨y, hy, h⟩)
        rw [hc]; simp [this]
      have h3 : (!(seen.push e.born).contains e.born) = false := by rw [hc]; simp
      rw [List.filter_cons, List.filter_cons, h3, hs, h2]
      simp only [Bool.not_false, if_true, Bool.false_eq_true, if_false, List.filter_cons]
      by_cases hk : isT e = true
      · rw [if_pos hk, if_pos hk]; rfl
      · rw [if_neg hk, if_neg hk]; rfl
    · have hin : e ∈ L := by
        rcases List.mem_cons.1 he with h1 | h1
        · exact absurd (by rw [h1]) hx
        · exact h1
      have ih := true_push_list seen e L hn'.2 hin hs
      have h3 : (!(seen.push e.born).contains x.born) = !seen.contains x.born := by rw [hc]; simp [hx]
      rw [List.filter_cons, List.filter_cons, h3]
      by_cases h4 : (!seen.contains x.born) = true
      · rw [if_pos h4, if_pos h4, List.filter_cons, List.filter_cons]
        by_cases hk : isT x = true
        · rw [if_pos hk, if_pos hk, List.length_cons, List.length_cons, ih]; omega
        · rw [if_neg hk, if_neg hk, ih]
      · rw [if_neg h4, if_neg h4, ih]
theorem true_push (es : Array MapEntry) (seen : Array Nat) (e : MapEntry) (hn : (es.toList.map (·.born)).Nodup) (he : e ∈ (leftOf es seen).toList) :
    trueL (leftOf es seen) = trueL (leftOf es (seen.push e.born)) + (if isT e = true then 1 else 0) := by
  unfold leftOf at he
  rw [Array.toList_filter, List.mem_filter] at he
  have h1 : seen.contains e.born = false := by simpa using he.2
  unfold trueL leftOf
  rw [Array.toList_filter, Array.toList_filter]
  exact true_push_list seen e es.toList hn he.1 h1
theorem true_start (es : Array MapEntry) : trueL (leftOf es #[]) = trueL es := by
  unfold leftOf
  congr 1
  apply Array.ext'
  rw [Array.toList_filter]
  apply List.filter_eq_self.2
  intro a _
  simp
theorem true_none (es : Array MapEntry) (h : es.size = 0) : trueL es = 0 := by
  have : es.toList = [] := List.eq_nil_of_length_eq_zero (by rw [Array.length_toList]; exact h)
  unfold trueL; rw [this]; rfl
theorem true_ent : ∀ (es : List MapEntry) (l : KE), EntE es l → (es.filter isT).length = (l.filter (·.2)).length
  | [], [], _ => rfl
  | [], _ :: _, h => by simp [EntE] at h
  | _ :: _, [], h => by simp [EntE] at h
  | e :: es, x :: l, h => by
    simp only [EntE, List.map_cons, List.cons.injEq, Prod.mk.injEq] at h
    obtain ⟨⟨h1, h2⟩, h3⟩ := h
    have ih := true_ent es l h3
    have hi : isT e = x.2 := by unfold isT; rw [h2]
    rw [List.filter_cons, List.filter_cons, hi]
    cases x.2 with
    | true => rw [if_pos rfl, if_pos rfl, List.length_cons, List.length_cons, ih]
    | false => rw [if_neg (by decide), if_neg (by decide), ih]

/-! ### The walk -/
theorem setBlock_at' {w : World} {r : Nat} (o : Obj) (hr : r < w.heap.size) : (setBlock w r o).heap[r]? = some o := by
  show (w.heap.setIfInBounds r o)[r]? = _
  rw [Array.getElem?_setIfInBounds, if_pos rfl, if_pos hr]
theorem setBlock_mv (w : World) (r : Nat) (o : Obj) : Mv (fun k => k = r) (fun k => k = r) w (setBlock w r o) := ⟨rfl, rfl, rfl, by simp [setBlock], fun i _ hi => by
    show (w.heap.setIfInBounds r o)[i]? = _
    rw [Array.getElem?_setIfInBounds, if_neg (fun e => hi e.symm)], fun _ h => .inl h⟩
theorem pradd_any (B p q : Nat) (ds : List D) (L : List E) (F : Nat → Prop) (e : E) (w : World) (H : Pr B w p q ds L F) (hL : L.length < 100000) :
    Calls Try.prog 13 #[.pointer (some ⟨q, 0, none⟩), .agg #[.string e.key, .int .i64 e.id]] w fun r w' => (∃ b, r = .returned (.bool b)) ∧ ∃ F', Pr B w' p q ds (add e L) F' ∧ Mv F F' w w' := by
  obtain ⟨F1, F2, h1, h2, h3, rfl⟩ := H
  refine (tadd_any B q L F2 e w h2 (by omega)).mono ?_
  rintro r w' ⟨rfl, F2', h2', m⟩
  have h4 := apart_step h3 (fun k hk => (h1.foot k hk).2) m
  refine ⟨⟨_, rfl⟩, _, ⟨F1, F2', h1.other m fun k hk hf => h3 k hk hf, h2', h4, rfl⟩, m.wider (fun k hk => .inr hk) fun k hk => ?_⟩
  rcases hk with hk | hk
  · exact .inr (.inl hk)
  · exact .inl hk
/-- The deeds that lay entries. -/
def wOf (x : A8) : D := ⟨true, x.ent⟩
def wsOf (xs : List A8) (k : Nat) : List D := (xs.take k).map wOf
theorem wsOf_succ (xs : List A8) (k : Nat) (hk : k < xs.length) : wsOf xs (k + 1) = wsOf xs k ++ [wOf (a8 xs k)] := by
  unfold wsOf a8
  rw [List.take_succ_eq_append_getElem hk, List.map_append, List.getD_eq_getElem?_getD, List.getElem?_eq_getElem hk]; rfl
theorem wsOf_length (xs : List A8) (k : Nat) (hk : k ≤ xs.length) : (wsOf xs k).length = k := by
  unfold wsOf; rw [List.length_map, List.length_take]; omega
theorem box3c {w : World} {b : Nat} {x y z : Int} {T : TypeId} (h : w.heap[b]? = some (.cells #[.int .u8 x, .int .u8 y, .int .u8 z] T (0, 0))) :
    w.cell? ⟨b, 0, none⟩ = some (.int .u8 x) ∧ w.cell? ⟨b, 1, none⟩ = some (.int .u8 y) ∧ w.cell? ⟨b, 2, none⟩ = some (.int .u8 z) :=
  ⟨(cell_of_row w _ 0 _ _ _ h).trans rfl, (cell_of_row w _ 1 _ _ _ h).trans rfl, (cell_of_row w _ 2 _ _ _ h).trans rfl⟩

set_option maxHeartbeats 8000000 in
set_option maxRecDepth 100000 in
theorem sidelast_walk (A : Option Addr) (n cap : Nat) (xs : List A8) (A' : Option Addr) (n' cap' : Nat) (ys : List A8) (w : World) (hin : InA8 w A n cap xs) (hin' : InA8 w A' n' cap' ys) :
    Calls Try.prog 4 #[.slice A n cap, .slice A' n' cap'] w fun r w' => r = .returned (.bool true) ∧ Below w.heap.size w w' := by
  have HIN := hid_mk hin
  have HIN' := hid_mk hin'
  have hxl := hin.1
  have hnc := hin.2.1
  have hcap := hin.2.2.1
  have hxl' := hin'.1
  have hnc' := hin'.2.1
  have hcap' := hin'.2.2.1
  clear hin hin'
  obtain ⟨m, hmn, hm80, hmm, hmin⟩ := min_fact Try.prog n 80 (by omega)
  obtain ⟨m', hmn', hm40, hmm', hmin'⟩ := min_fact Try.prog n' 40 (by omega)
  have hmc : m ≤ cap := by omega
  have hmc' : m' ≤ cap' := by omega
  have HM := hid_mk (min_80 n m hmn hm80 hmm)
  have HXL := hid_mk hxl
  have HXL' := hid_mk hxl'
  have hmm8 : m ≤ 80 := by omega
  have hmm4 : m' ≤ 40 := by omega
  have hmk := @run_makeMap Try.prog
  clear hmm hmm' hxl hxl'
  go_enter Try.func4, Try.ntmps4
  go_wp2_with fail
  refine (sawake_any _).mono ?_
  rintro r w1 ⟨rfl, b1⟩
  have HI1 := hid_mk (HIN.out.below b1)
  have HI1' := hid_mk (HIN'.out.below b1)
  have HB1 := hid_mk b1
  clear b1
  go_wp2_with fail
  refine (filled_any A n cap xs _ HI1.out).mono ?_
  rintro r w2 ⟨p, q, F, rfl, P2, b2⟩
  rw [HM.out] at P2
  obtain ⟨Ds, hDs⟩ : ∃ Ds, Ds = dsOf xs m := ⟨_, rfl⟩
  rw [← hDs] at P2
  have HDS := hid_mk hDs
  have HDL : Hid (Ds.length = m) := hid_mk (by rw [hDs]; exact dsOf_length xs m (by have := HXL.out; omega))
  obtain ⟨rM, hrM⟩ : ∃ rM, rM = w2.heap.size := ⟨_, rfl⟩
  obtain ⟨W3, hW3⟩ : ∃ W3, W3 = w2.alloc (.map #[] 0) := ⟨_, rfl⟩
  have b3 : Below w2.heap.size w2 W3 := by rw [hW3]; exact balloc _
  have HP3 : Hid (Pr w1.heap.size W3 p q Ds (dids [] (wsOf ys 0)) F) := hid_mk (P2.below b3)
  have HM3 : Hid (MapE W3 rM []) := hid_mk (by rw [hW3, hrM]; exact mapE_new w2)
  have HNF : Hid (¬ F rM) := hid_mk fun h9 => by have := (P2.foot _ h9).2; omega
  have HWR : Hid (WantR [] (dids [] (wsOf ys 0))) := hid_mk WantR.nil
  have HB3 := hid_mk (bthen HB1.out (bthen b2 b3))
  have HR1 : Hid (w1.heap.size ≤ rM) := hid_mk (by rw [hrM]; exact b2.size)
  have HW1 : Hid (w.heap.size ≤ w1.heap.size) := hid_mk HB1.out.size
  have HW3 := hid_mk hW3.symm
  have HRM := hid_mk hrM.symm
  have HI3 := hid_mk (HI1.out.below (bthen b2 b3))
  have HI3' := hid_mk (HI1'.out.below (bthen b2 b3))
  clear P2 b2 b3 hrM hW3 hDs HI1 HI1' HB1
  go_wp2_with fail
  rw [HW3.out, HRM.out]
  clear hmk hmin'
  go_loopw [31] (fun iv wr => ∃ (k : Nat) (F : Nat → Prop) (M : KE), iv = .int .i64 k ∧ k ≤ m' ∧ Hid (Pr w1.heap.size wr p q Ds (dids [] (wsOf ys k)) F) ∧ Hid (MapE wr rM M) ∧ Hid (WantR M (dids [] (wsOf ys k))) ∧ Hid (¬ F rM) ∧ Hid (Below w.heap.size w wr)) (fun iv _ => m' - (intOf iv).toNat)
  case atStart => exact ⟨0, F, [], rfl, Nat.zero_le _, HP3, HM3, HWR, HNF, HB3⟩
  case round =>
    clear HP3 HM3 HWR HNF HB3 HW3 HI3 HI3'
    obtain ⟨k, F, M, rfl, hk, HP, HMM, HWR, HNF, HB⟩ := hrel
    by_cases hlt : k < m'
    · have hkn : k < n' := by omega
      obtain ⟨b, off, rfl, hbw, hcs⟩ := HIN'.out.2.2.2.2 (by omega)
      obtain ⟨v0, v1, v2⟩ := hcs k hkn
      obtain ⟨x, hx⟩ : ∃ x, x = a8 ys k := ⟨_, rfl⟩
      have hsucc := wsOf_succ ys k (by have := HXL'.out; omega)
      have hlen := wsOf_length ys k (by have := HXL'.out; omega)
      have hok := HIN'.out.2.2.2.1 k hkn
      rw [← hx] at v0 v1 v2 hsucc hok
      have c0 := keep_cell HB.out v0
      have c1 := keep_cell HB.out v1
      have c2 := keep_cell HB.out v2
      obtain ⟨Wx, hWx⟩ : ∃ Wx, Wx = wr.alloc (.cells #[.int .u8 x.kind, .int .u8 x.key, .int .u8 x.id] 33) := ⟨_, rfl⟩
      have bx : Below wr.heap.size wr Wx := by rw [hWx]; exact balloc _
      have Zx : Wx.heap[wr.heap.size]? = some (.cells #[.int .u8 x.kind, .int .u8 x.key, .int .u8 x.id] 33 (0, 0)) := by rw [hWx]; exact heap_alloc_new wr _
      have HZx := hid_mk Zx
      have HPx := hid_mk (HP.out.below bx)
      have HMx := hid_mk (HMM.out.below bx)
      have HBx := hid_mk (HB.out.trans (bx.mono HB.out.size))
      have HFB : Hid (¬ F wr.heap.size) := hid_mk fun h9 => by have := (HP.out.foot _ h9).2; omega
      have HRL : Hid (rM < wr.heap.size) := hid_mk HMM.out.lt
      have HOK := hid_mk hok
      have HLE : Hid ((dids [] (wsOf ys k)).length < 100000) := hid_mk (by
        have := dids_le (wsOf ys k) (L := []) List.Pairwise.nil
        rw [hlen] at this
        simp only [List.length_nil] at this
        omega)
      have HSC := hid_mk hsucc
      have HSR := hid_mk HP.out.srt
      have HWx := hid_mk hWx.symm
      clear hcs v0 v1 v2 hx hlen hok hWx bx Zx HP HMM HB hsucc
      go_wp2_with fail
      rw [HWx.out]
      refine (entry_any x _ HOK.out).mono ?_
      rintro r w4 ⟨rfl, b4⟩
      have HP4 := hid_mk (HPx.out.below b4)
      have HM4 := hid_mk (HMx.out.below b4)
      have HB4 := hid_mk (HBx.out.trans (b4.mono HBx.out.size))
      have HZ4 := hid_mk (below_block b4 (lt_of_block HZx.out) HZx.out)
      clear b4 HPx HMx HBx HZx c0 c1 c2
      go_wp2_with fail
      refine (pradd_any w1.heap.size p q Ds _ F x.ent _ HP4.out HLE.out).mono ?_
      rintro r w5 ⟨⟨bb, rfl⟩, F5, P5, m5⟩
      have HNF5 : Hid (¬ F5 rM) := hid_mk fun h9 => by
        rcases m5.new _ h9 with h8 | h8
        · exact HNF.out h8
        · have := HM4.out.lt; omega
      have HM5 := hid_mk (HM4.out.mv m5 HNF.out)
      have HB5 := hid_mk (HB4.out.trans ((HP4.out.moved m5).mono HW1.out))
      have Z5 := m5.at_ HZ4.out HFB.out
      obtain ⟨y0, y1, y2⟩ := box3c Z5
      have HP5 := hid_mk P5
      clear P5 m5 Z5 HP4 HM4 HB4 HZ4
      go_wp2_with fail
      refine (entry_any x _ HOK.out).mono ?_
      rintro r w6 ⟨rfl, b6⟩
      obtain ⟨w7, hput, M7, m7⟩ := run_putE (HM5.out.below b6) x.ent (good_ent x HOK.out) true
      have HP7 : Hid (Pr w1.heap.size w7 p q Ds (dids [] (wsOf ys (k + 1))) F5) := hid_mk (by
        have h9 := (HP5.out.below b6).other m7 fun j hj h => HNF5.out (h ▸ hj)
        rw [HSC.out, dids_append]
        exact h9)
      have HWR7 : Hid (WantR (kePut M x.ent true) (dids [] (wsOf ys (k + 1)))) := hid_mk (by
        rw [HSC.out, dids_append]
        exact HWR.out.put HSR.out (wOf x))
      have HM7 := hid_mk M7
      have HB7 := hid_mk ((HB5.out.trans (b6.mono HB5.out.size)).trans (m7.below (fun j hj => by rw [hj]; exact Nat.le_trans HW1.out HR1.out) (Nat.le_trans HB5.out.size b6.size)))
      clear b6 M7 m7 HP5 HM5 HB5 y0 y1 y2
      go_wp2_with fail
      exact ⟨⟨k + 1, F5, _, by go_num, by omega, HP7, HM7, HWR7, HNF5, HB7⟩, by simp [intOf] <;> omega⟩
    · obtain rfl : m' = k := by omega
      obtain ⟨L1, hL1⟩ : ∃ L1, L1 = dids [] (wsOf ys m') := ⟨_, rfl⟩
      rw [← hL1] at HP HWR
      have HL1 : Hid (L1.length ≤ 40) := hid_mk (by
        have h1 := dids_le (wsOf ys m') (L := []) List.Pairwise.nil
        have h2 := wsOf_length ys m' (by have := HXL'.out; omega)
        rw [h2] at h1
        simp only [List.length_nil] at h1
        rw [hL1]; omega)
      have HS1 := hid_mk HP.out.srt
      have HWR0 : Hid (WantR M (dids L1 (dsOf xs 0))) := HWR
      clear hL1
      go_wp2_with fail
      clear hmin
      go_loopw [49] (fun iv wr => ∃ (k : Nat) (M : KE), iv = .int .i64 k ∧ k ≤ m ∧ Hid (Pr w1.heap.size wr p q Ds L1 F) ∧ Hid (MapE wr rM M) ∧ Hid (WantR M (dids L1 (dsOf xs k))) ∧ Hid (Below w.heap.size w wr)) (fun iv _ => m - (intOf iv).toNat)
      case atStart => exact ⟨0, M, rfl, Nat.zero_le _, HP, HMM, HWR0, HB⟩
      case round =>
        clear HP HMM HWR HB HWR0
        obtain ⟨k, M, rfl, hk, HP, HMM, HWR, HB⟩ := hrel
        by_cases hlt : k < m
        · have hkn : k < n := by omega
          obtain ⟨b, off, rfl, hbw, hcs⟩ := HIN.out.2.2.2.2 (by omega)
          obtain ⟨v0, v1, v2⟩ := hcs k hkn
          obtain ⟨x, hx⟩ : ∃ x, x = a8 xs k := ⟨_, rfl⟩
          have hsucc := dsOf_succ xs k (by have := HXL.out; omega)
          have hok := HIN.out.2.2.2.1 k hkn
          rw [← hx] at v0 v1 v2 hsucc hok
          have c0 := keep_cell HB.out v0
          have c1 := keep_cell HB.out v1
          have c2 := keep_cell HB.out v2
          obtain ⟨Wx, hWx⟩ : ∃ Wx, Wx = (wr.alloc (.cells #[.int .u8 x.kind, .int .u8 x.key, .int .u8 x.id] 33)).drew := ⟨_, rfl⟩
          have bx : Below wr.heap.size wr Wx := by rw [hWx]; exact pw_below (n := 1) (balloc _)
          have Zx : Wx.heap[wr.heap.size]? = some (.cells #[.int .u8 x.kind, .int .u8 x.key, .int .u8 x.id] 33 (0, 0)) := by rw [hWx]; exact heap_alloc_new wr _
          have HZx := hid_mk Zx
          have HPx := hid_mk (HP.out.below bx)
          have HMx := hid_mk (HMM.out.below bx)
          have HBx := hid_mk (HB.out.trans (bx.mono HB.out.size))
          have HRL : Hid (rM ≠ wr.heap.size) := hid_mk (by have := HMM.out.lt; omega)
          have HOK := hid_mk hok
          have HSC := hid_mk hsucc
          have HSR := hid_mk (srt_dids (dsOf xs k) HS1.out)
          have y0 := (box3c Zx).1
          have y1 := (box3c Zx).2.1
          have y2 := (box3c Zx).2.2
          rw [hWx] at y0 y1 y2
          have HWx := hid_mk hWx
          clear hcs v0 v1 v2 hx hok hWx bx Zx HP HMM HB hsucc
          go_wp2_with fail
          go_region_held3 (fun w' => w'.cell? ⟨wr.heap.size, 0, none⟩ = some (.int .u8 x.kind) ∧ w'.cell? ⟨wr.heap.size, 1, none⟩ = some (.int .u8 x.key) ∧ w'.cell? ⟨wr.heap.size, 2, none⟩ = some (.int .u8 x.id))
            ((first | go_keep | exact ⟨K0, K1, K2⟩ | exact ⟨J0, J1, J2⟩))
            ((first
              | (go_at_call 14; refine (entry_any x _ HOK.out).mono ?_; rintro r w4 ⟨rfl, b4⟩; rw [← HWx.out] at b4; have HB4 := hid_mk b4; have Z4 := below_block b4 (lt_of_block HZx.out) HZx.out; obtain ⟨K0, K1, K2⟩ := box3c Z4; obtain ⟨w7, hput, M7, m7⟩ := run_putE (HMx.out.below b4) x.ent (good_ent x HOK.out) (decide (x.kind < 140)); obtain ⟨J0, J1, J2⟩ := box3c (m7.at_ Z4 (fun h => HRL.out h.symm)); have HM7 := hid_mk M7; have Hm7 := hid_mk m7; clear b4 Z4 M7 m7)))
          have HP7 := hid_mk ((HPx.out.below HB4.out).other Hm7.out fun j hj h => HNF.out (h ▸ hj))
          have HWR7 : Hid (WantR (kePut M x.ent (decide (x.kind < 140))) (dids L1 (dsOf xs (k + 1)))) := hid_mk (by
            rw [HSC.out, dids_append]
            exact HWR.out.put HSR.out (dOf x))
          have HB7 := hid_mk ((HBx.out.trans (HB4.out.mono HBx.out.size)).trans (Hm7.out.below (fun j hj => by rw [hj]; exact Nat.le_trans HW1.out HR1.out) (Nat.le_trans HBx.out.size HB4.out.size)))
          clear J0 J1 J2 K0 K1 K2 y0 y1 y2 c0 c1 c2 hput HB4 Hm7 HPx HMx HBx
          go_wp2_with fail
          exact ⟨⟨k + 1, _, by go_num, by omega, HP7, HM7, HWR7, HB7⟩, by simp [intOf] <;> omega⟩
        · obtain rfl : m = k := by omega
          rw [← HDS.out] at HWR
          go_wp2_with fail
          refine (drain_any w1.heap.size p q Ds L1 F 100 _ HP.out (by have := HDL.out; omega) (by have := HL1.out; omega)).mono ?_
          rintro r w5 ⟨rfl, F5, P5, m5⟩
          have hmin6 : Nat.min (100 : Int).toNat m = m := Nat.min_eq_right (by show m ≤ 100; omega)
          have hall6 : Ds.take m = Ds := List.take_of_length_le (by rw [HDL.out]; exact Nat.le_refl _)
          rw [HDL.out, hmin6, hall6] at P5
          obtain ⟨L2, hL2⟩ : ∃ L2, L2 = dids L1 Ds := ⟨_, rfl⟩
          rw [← hL2] at P5 HWR
          obtain ⟨G, T5⟩ := P5.tree
          have M5 := HMM.out.mv m5 HNF.out
          have hb5 := HB.out.trans ((HP.out.moved m5).mono HW1.out)
          obtain ⟨es, c, hb1, hent, hnd, hbc, hkn, hgd⟩ := M5
          have htot : trueL es = L2.length := (true_ent es.toList M hent).trans (want_len HWR.out hkn T5.srt)
          have hrg := run_range_map (P := Try.prog) w5 31 36 4 rM es c Try.underlying31 hb1
          obtain ⟨IT, hIT⟩ : ∃ IT, IT = w5.heap.size := ⟨_, rfl⟩
          obtain ⟨w0, hw0⟩ : ∃ w0, w0 = w5.alloc (.mapIter (some rM) c #[] c) := ⟨_, rfl⟩
          have I0 : Hid (w0.heap[IT]? = some (.mapIter (some rM) c #[] c)) := hid_mk (by rw [hw0, hIT]; exact heap_alloc_new w5 _)
          have M0 : Hid (w0.heap[rM]? = some (.map es c)) := hid_mk (by rw [hw0]; exact below_block (balloc _) (lt_of_block hb1) hb1)
          have T0 : Hid (Tree w1.heap.size w0 q L2 G) := hid_mk (by rw [hw0]; exact T5.below (balloc _))
          have B0 : Hid (Below w.heap.size w w0) := hid_mk (by rw [hw0]; exact hb5.trans ((balloc (w := w5) _).mono hb5.size))
          have HIw : Hid (w.heap.size ≤ IT) := hid_mk (by rw [hIT]; exact hb5.size)
          have HIr : Hid (rM ≠ IT) := hid_mk (by rw [hIT]; have := lt_of_block hb1; omega)
          have HGI : Hid (∀ j, G j → j ≠ IT) := hid_mk fun j hj => by have := (T5.foot j hj).2; omega
          have HKE : Hid (∀ e ∈ es.toList, ∃ x : E × Bool, e.key = .agg #[.string x.1.key, .int .i64 x.1.id] ∧ e.val = .bool x.2 ∧ decide (x.1 ∈ L2) = x.2) := hid_mk fun e he => by
            obtain ⟨x, hx, h1, h2⟩ := hent.mem he
            refine ⟨x, h1, h2, ?_⟩
            have h3 := HWR.out x.1
            rw [keGet_mem (b := x.2) hkn hx] at h3
            exact h3.symm
          have HN0 : Hid (0 + trueL (leftOf es #[]) = L2.length) := hid_mk (by rw [true_start, htot, Nat.zero_add])
          have HLN : Hid (L2.length < 1000) := hid_mk (by
            have h1 := dids_le Ds HS1.out
            rw [HDL.out] at h1
            have := HL1.out
            rw [hL2]; omega)
          have HND := hid_mk hnd
          have HBC := hid_mk hbc
          rw [← hw0, ← hIT] at hrg
          clear hL2 P5 m5 T5 hb5 hb1 hent hnd hbc hkn hgd htot hIT hw0 HP HMM HWR HB hmin6 hall6
          go_wp2_with fail
          go_loopw [12] (fun nv wx => ∃ (seen : Array Nat) (N : Nat), nv = .int .i64 N ∧ Hid (N + trueL (leftOf es seen) = L2.length) ∧ Hid (wx.heap[IT]? = some (.mapIter (some rM) c seen c)) ∧ Hid (wx.heap[rM]? = some (.map es c)) ∧ Hid (Tree w1.heap.size wx q L2 G) ∧ Hid (Below w.heap.size w wx)) (fun _ wx => (leftOf es (wx.iterSeen IT)).size)
          case atStart => exact ⟨#[], 0, rfl, HN0, I0, M0, T0, B0⟩
          case round =>
            clear HN0 I0 M0 T0 B0 hrg
            obtain ⟨seen, N, rfl, HN, HI, HMp, HT, HB⟩ := hrel
            have hsee : wr.iterSeen IT = seen := by unfold World.iterSeen; rw [HI.out]
            rcases run_next_at (P := Try.prog) wr 3 IT rM c c seen es c HI.out HMp.out HBC.out (Nat.le_refl _) with ⟨h0, hrun⟩ | ⟨e, he, w1', hw1, hrun⟩
            · have hnx : ∀ ty, (Instr.next (.pointer (some ⟨IT, 0, none⟩)) false ty).run Try.prog wr = _ := fun _ => hrun
              have hNL : L2.length = N := by have := HN.out; rw [true_none _ h0] at this; omega
              have HNL := hid_mk hNL
              clear hrun h0 hsee hNL
              go_wp2_with fail
              refine (len_any w1.heap.size q L2 G _ HT.out).mono ?_
              rintro r w9 ⟨rfl, rfl⟩
              rw [HNL.out]
              go_wp2_with fail
              go_ret
              exact ⟨by simp, HB.out⟩
            · obtain ⟨⟨xe, xb⟩, hkey, hval, hdec⟩ := HKE.out e (mem_left he).1
              simp only at hkey hval hdec
              have hheap : w1'.heap = wr.heap := by rcases hw1 with rfl | rfl <;> rfl
              have hbw1 : Below wr.heap.size wr w1' := by
                rcases hw1 with rfl | rfl
                · exact Below.refl _ _
                · exact pw_below (n := 1) (Below.refl _ _)
              have hIlt : IT < w1'.heap.size := by rw [hheap]; exact lt_of_block HI.out
              obtain ⟨w2', hw2⟩ : ∃ w2', w2' = setBlock w1' IT (.mapIter (some rM) c (seen.push e.born) c) := ⟨_, rfl⟩
              have mv2 : Mv (fun j => j = IT) (fun j => j = IT) w1' w2' := by rw [hw2]; exact setBlock_mv _ _ _
              have I2 : w2'.heap[IT]? = some (.mapIter (some rM) c (seen.push e.born) c) := by rw [hw2]; exact setBlock_at' _ hIlt
              have M2 : w2'.heap[rM]? = some (.map es c) := mv2.at_ (by rw [hheap]; exact HMp.out) HIr.out
              have T2 : Tree w1.heap.size w2' q L2 G := (HT.out.below hbw1).other mv2 fun j hj => HGI.out j hj
              have B2 : Below w.heap.size w w2' := (HB.out.trans (hbw1.mono HB.out.size)).trans (mv2.below (fun j hj => by rw [hj]; exact HIw.out) (Nat.le_trans HB.out.size hbw1.size))
              rw [← hw2, hkey, hval] at hrun
              have hen := run_entry_at (P := Try.prog) w2' IT rM c seen es c e I2 M2 (mem_left he).1 HND.out
              rw [hkey, hval] at hen
              have hnx : ∀ ty, (Instr.next (.pointer (some ⟨IT, 0, none⟩)) false ty).run Try.prog wr = _ := fun _ => hrun
              have hpush := true_push es seen e HND.out he
              have hit : isT e = xb := by unfold isT; rw [hval]
              rw [hit] at hpush
              have HPUSH := hid_mk hpush
              have HSHR := hid_mk (left_shrinks es seen e he)
              have HSEE := hid_mk hsee
              obtain ⟨W6, hW6⟩ : ∃ W6, W6 = w2'.alloc (.cells #[.string xe.key, .int .i64 xe.id] 36) := ⟨_, rfl⟩
              have b6 : Below w2'.heap.size w2' W6 := by rw [hW6]; exact balloc _
              have HT6 := hid_mk (T2.below b6)
              have HB6 := hid_mk (B2.trans (b6.mono B2.size))
              have HI6 := hid_mk (below_block b6 (lt_of_block I2) I2)
              have HM6 := hid_mk (below_block b6 (lt_of_block M2) M2)
              have HW6 := hid_mk hW6.symm
              have HDEC := hid_mk hdec
              clear hrun hw2 mv2 I2 M2 T2 B2 hpush hit hsee hw1 hheap hbw1 hIlt HI HMp HT HB he hkey hval b6 hW6 hdec
              go_wp2_with fail
              rw [HW6.out]
              refine (has_any w1.heap.size q L2 G xe _ HT6.out).mono ?_
              rintro r w8 ⟨rfl, b8⟩
              rw [HDEC.out]
              have HT8 := hid_mk (HT6.out.below b8)
              have HB8 := hid_mk (HB6.out.trans (b8.mono HB6.out.size))
              have I8 := below_block b8 (lt_of_block HI6.out) HI6.out
              have HM8 := hid_mk (below_block b8 (lt_of_block HM6.out) HM6.out)
              have HMEAS : Hid ((leftOf es (w8.iterSeen IT)).size < (leftOf es (wr.iterSeen IT)).size) := hid_mk (by
                rw [HSEE.out, show w8.iterSeen IT = seen.push e.born by unfold World.iterSeen; rw [I8]]
                exact HSHR.out)
              have HI8 := hid_mk I8
              clear b8 I8 hnx hen HT6 HB6 HI6 HM6
              cases xb with
              | true =>
                have HN8 : Hid (N + 1 + trueL (leftOf es (seen.push e.born)) = L2.length) := hid_mk (by
                  have h1 := HN.out
                  have h2 := HPUSH.out
                  rw [if_pos rfl] at h2
                  omega)
                have hNb : (N : Int) < 1000 := by have := HN8.out; have := HLN.out; omega
                clear HPUSH
                go_wp2_with fail
                exact ⟨⟨_, N + 1, by go_num, HN8, HI8, HM8, HT8, HB8⟩, HMEAS.out⟩
              | false =>
                have HN8 : Hid (N + trueL (leftOf es (seen.push e.born)) = L2.length) := hid_mk (by
                  have h1 := HN.out
                  have h2 := HPUSH.out
                  rw [if_neg (by decide)] at h2
                  omega)
                clear HPUSH
                go_wp2_with fail
                exact ⟨⟨_, N, rfl, HN8, HI8, HM8, HT8, HB8⟩, HMEAS.out⟩

end Go.Proofs.Ytaoamkkgiiiejaa
