/- The walks over package gate: Leave. -/
import Derived.Test.YtehcliogjnpehabGateB
namespace Go.Proofs.Ytehcliogjnpehab
open Go.RowKit
set_option linter.unusedVariables false

theorem same_any (q : Nat) (x y : Int) (w : World) (hq : w.cell? ⟨q, 0, none⟩ = some (.int .i64 x)) :
    Calls Try.prog 14 #[.int .i64 y, .pointer (some ⟨q, 0, none⟩)] w fun e w' => e = .returned (.bool (y == x)) ∧ w' = w := by
  go_enter Try.func14, Try.ntmps14
  go_wp2_with fail
  go_ret
  exact ⟨rfl, rfl⟩

theorem indexFunc_any (l : List Int) (B : Nat) (v : Value) (q : Nat) (x : Int) (w : World) (h : Ids B w v l) (hq : w.cell? ⟨q, 0, none⟩ = some (.int .i64 x)) :
    Calls Try.prog 19 #[v, .func (.func 14) #[] #[.pointer (some ⟨q, 0, none⟩)]] w fun e w' => e = .returned (.int .i64 (posI l x)) ∧ w' = w := by
  obtain ⟨A, cap, rfl, hlc, hcm, hA, hc⟩ := h.cells
  go_enter Try.func19, Try.ntmps19
  go_wp2_with fail
  go_loop [8] (fun i => ∃ k : Nat, i = .int .i64 k ∧ k ≤ l.length ∧ Hid (∀ j, j < k → (gi l j == x) = false)) (fun i => l.length - (intOf i).toNat)
  case atStart => exact ⟨0, rfl, Nat.zero_le _, fun j hj => absurd hj (by omega)⟩
  case round =>
    obtain ⟨k, rfl, hk, hno⟩ := hrel
    by_cases hlt : k < l.length
    · obtain ⟨g, rfl, hg, hBg⟩ := hA (by omega)
      have c0 := hc k hlt g rfl
      clear hc h hA
      go_wp2_with (go_at_call 14; refine (same_any _ _ _ _ hq).mono ?_; rintro e w' ⟨rfl, rfl⟩)
      · have hyes : (gi l k == x) = true := by assumption
        go_ret
        exact ⟨ret_int (posI_hit l x k hlt hno.out hyes).symm, rfl⟩
      · have hmiss : (gi l k == x) = false := by assumption
        exact ⟨⟨k + 1, by go_num, by omega, hid_succ hno hmiss⟩, by simp [intOf]; omega⟩
    · obtain rfl : k = l.length := by omega
      go_wp2_with fail
      go_ret
      exact ⟨ret_int (posI_miss l x hno.out).symm, rfl⟩

theorem deleteFunc_any (l : List Int) (B : Nat) (v : Value) (q : Nat) (x : Int) (w : World) (h : Ids B w v l) (hl : l.length < 1000000000000) (hq : w.cell? ⟨q, 0, none⟩ = some (.int .i64 x)) (hqv : v.ownBlock ≠ some q) :
    Calls Try.prog 15 #[v, .func (.func 14) #[] #[.pointer (some ⟨q, 0, none⟩)]] w fun e w' => ∃ v', e = .returned v' ∧ Ids B w' v' (but l x) ∧ Mv (own v) (own v') w w' := by
  by_cases hx : x ∈ l
  · have hp0 := (pos_lt l x).2 hx
    have hpx0 : gi l (pos l x) = x := by
      rw [gi_get _ _ hp0]
      have := List.findIdx_getElem (xs := l) (p := fun y => y == x) (w := hp0)
      exact beq_iff_eq.1 this
    have hpi0 : posI l x = (pos l x : Int) := if_pos hp0
    have hbp0 := but_pos l x _ rfl
    obtain ⟨s, hp, hpi, HBP, HPX⟩ : ∃ s, s < l.length ∧ posI l x = (s : Int) ∧ Hid (but (l.take s) x = l.take s) ∧ Hid (gi l s = x) := ⟨_, hp0, hpi0, hbp0, hpx0⟩
    clear hp0 hpx0 hpi0 hbp0
    have hpn : ((s : Int) == -1) = false := beq_eq_false_iff_ne.2 (by omega)
    obtain ⟨A, cap, rfl, hlc, hcm, hA, hc⟩ := h.cells
    obtain ⟨g, rfl, hg, hBg⟩ := hA (by omega)
    go_enter Try.func15, Try.ntmps15
    go_wp2_with fail
    refine (indexFunc_any l B _ q x _ h hq).mono ?_
    rintro e w1 ⟨rfl, rfl⟩
    rw [hpi]
    clear hpi
    go_wp2_with fail
    go_loopw [5, 6] (fun a b wr => ∃ i j : Nat, a = .int .i64 i ∧ b = .int .i64 j ∧ i < j ∧ j ≤ l.length ∧ i = (but (l.take j) x).length ∧ Mv (own (.slice (some ⟨g, 0, none⟩) l.length cap)) (own (.slice (some ⟨g, 0, none⟩) l.length cap)) w1 wr ∧
      ∃ C : List Int, C.length = l.length ∧ wr.ownsRow B 2 1 (.slice (some ⟨g, 0, none⟩) l.length cap) l.length (ints C) ∧ C.take i = but (l.take j) x ∧ C.drop j = l.drop j) (fun _ b _ => l.length - (intOf b).toNat)
    case atStart =>
      have hb : but (l.take (s + 1)) x = l.take s := by
        rw [but_take l x s hp, HBP.out, if_pos (by rw [HPX.out]; simp), List.append_nil]
      exact ⟨s, s + 1, rfl, by go_num, by omega, by omega, by rw [hb, List.length_take]; omega, Mv.refl _ _, l, rfl, h, by rw [hb], rfl⟩
    case round =>
      obtain ⟨i, j, rfl, rfl, hij, hj, hi0, hm, C, hC, hrow, hCi, hCj⟩ := hrel
      have hi := hid_mk hi0
      have hile : i ≤ j := by omega
      clear hi0
      have hq2 : wr.cell? ⟨q, 0, none⟩ = some (.int .i64 x) := hm.cell hq (by simpa [own] using hqv)
      by_cases hlt : j < l.length
      · have c0 := ints_at hrow j (by omega)
        have hgj : C.getD j 0 = gi l j := by
          have h1 := congrArg (fun z => z.head?) hCj
          simp only [List.head?_drop] at h1
          unfold gi
          rw [List.getD_eq_getElem?_getD, List.getD_eq_getElem?_getD, h1]
        rw [hgj] at c0
        have hf := World.ownsRow.frozenAt hrow i
        have ci := ints_at hrow i (by omega)
        have HBT := hid_mk (but_take l x j hlt)
        have hbl := but_take_length l x j
        clear hgj hc h hA hq
        have HST := hid_mk (ints_store hrow i (gi l j))
        go_wp2_with (go_at_call 14; refine (same_any _ _ _ _ hq2).mono ?_; rintro e w' ⟨rfl, rfl⟩)
        · have he : ¬ (gi l j == x) = true := by
            have h' : (!(gi l j == x)) = true := by assumption
            simpa using h'
          have HB2 : Hid (but (l.take (j + 1)) x = but (l.take j) x ++ [gi l j]) := by rw [HBT.out, if_neg he]; exact rfl
          refine ⟨⟨i + 1, j + 1, by go_num, by go_num, by omega, by omega, by rw [HB2.out, List.length_append, ← hi.out]; rfl, hm.trans (Mv.setCell _ rfl), C.set i (gi l j), by simp [hC], HST.out.1, ?_, ?_⟩, by simp [intOf]; omega⟩
          · rw [HB2.out, ← hCi, gi_take _ i (by simp; omega), gi_set _ _ _ _ (by omega), if_pos rfl, List.take_set_of_le (Nat.le_refl _)]
          · rw [List.drop_set_of_lt (by omega), ← List.drop_drop, ← List.drop_drop, hCj]
        · have he : (gi l j == x) = true := by
            have h' : (!(gi l j == x)) = false := by assumption
            simpa using h'
          have HB2 : Hid (but (l.take (j + 1)) x = but (l.take j) x) := by rw [HBT.out, if_pos he]; exact List.append_nil _
          refine ⟨⟨i, j + 1, rfl, by go_num, by omega, by omega, by rw [HB2.out]; exact hi.out, hm, C, hC, hrow, by rw [HB2.out]; exact hCi, ?_⟩, by simp [intOf]; omega⟩
          rw [← List.drop_drop, ← List.drop_drop, hCj]
      · obtain rfl : j = l.length := by omega
        rw [List.take_length] at hi hCi
        have hilt : i < l.length := by omega
        have hil : i ≤ cap := by omega
        have hown2 := own_prefix hrow i (by omega)
        have hic : ¬ cap = i := by omega
        clear hc h hA hq hq2
        go_wp2_with (refine wpList_clear_own rfl (.tmp 38) 26 rfl hown2 (l.length - i) (cap - i) _ rfl (by omega) (by omega) (by omega) Try.underlying26 _ zero2 rfl (by intro u hu; simp [Value.cells] at hu; subst hu; rfl) ?_; intro w2 hown3 hg2)
        go_ret
        refine ⟨_, rfl, ?_, hm.trans (Mv.grown hg2 (.inl rfl))⟩
        unfold Ids
        rw [← hi.out, ← hCi]
        have e : (ints C).take (i * 1) = ints (C.take i) := by rw [Nat.mul_one]; simp [ints, List.map_take]
        rw [← e]
        exact hown3
  · have hpi : posI l x = -1 := if_neg (fun h => hx ((pos_lt l x).1 h))
    have HBU := hid_mk (but_none l x hx)
    obtain ⟨A, cap, rfl, _, _, _⟩ := ownsRow_shape h
    go_enter Try.func15, Try.ntmps15
    go_wp2_with fail
    refine (indexFunc_any l B _ q x _ h hq).mono ?_
    rintro e w1 ⟨rfl, rfl⟩
    rw [hpi]
    go_wp2_with fail
    go_ret
    exact ⟨_, rfl, by rw [HBU.out]; exact h, Mv.refl _ _⟩

end Go.Proofs.Ytehcliogjnpehab
