/- The walk over GateAway. -/
import Derived.Test.YtjbjkkicfdaljacGateTwice
namespace Go.Proofs.Ytjbjkkicfdaljac
open Go.RowKit
set_option linter.unusedVariables false

def up (n k : Nat) : List Int := (List.range' n k).map fun i : Nat => (i : Int)
theorem up_length (n k : Nat) : (up n k).length = k := by simp [up]
theorem mem_up (n k : Nat) (x : Int) : x ∈ up n k ↔ ∃ i : Nat, x = i ∧ n ≤ i ∧ i < n + k := by
  unfold up
  rw [List.mem_map]
  constructor
  · rintro ⟨i, hi, rfl⟩
    rw [List.mem_range'_1] at hi
    exact ⟨i, rfl, hi.1, hi.2⟩
  · rintro ⟨i, rfl, h1, h2⟩
    exact ⟨i, by rw [List.mem_range'_1]; exact ⟨h1, h2⟩, rfl⟩
theorem up_succ (n k : Nat) : up n (k + 1) = up n k ++ [((n + k : Nat) : Int)] := by
  unfold up
  rw [List.range'_1_concat, List.map_append]
  rfl
theorem up_nodup (n k : Nat) : (up n k).Nodup := by
  unfold up
  refine List.Pairwise.map _ (fun a b h => ?_) List.nodup_range'
  exact fun e => h (by omega)

def stA (t r k : Nat) : G := ⟨t, r, up 0 (min k t), up t (k - t)⟩
theorem stA_not (t r k : Nat) : (k : Int) ∉ (stA t r k).i ∧ (k : Int) ∉ (stA t r k).w := by
  constructor
  · intro h
    obtain ⟨i, h1, _, h3⟩ := (mem_up _ _ _).1 h
    have : i = k := by omega
    omega
  · intro h
    obtain ⟨i, h1, h2, h3⟩ := (mem_up _ _ _).1 h
    have : i = k := by omega
    omega
theorem stA_step (t r k : Nat) (hk : k < t + r) : askA (stA t r k) k = (if k < t then 1 else 2) ∧ askG (stA t r k) k = stA t r (k + 1) := by
  obtain ⟨h1, h2⟩ := stA_not t r k
  have l1 : (stA t r k).i.length = min k t := up_length _ _
  have l2 : (stA t r k).w.length = k - t := up_length _ _
  by_cases hkt : k < t
  · have h3 : (stA t r k).i.length < (stA t r k).t := by rw [l1]; show min k t < t; omega
    refine ⟨((if_neg h1).trans ((if_neg h2).trans (if_pos h3))).trans (if_pos hkt).symm, ((if_neg h1).trans ((if_neg h2).trans (if_pos h3))).trans ?_⟩
    show (⟨t, r, up 0 (min k t) ++ [(k : Int)], up t (k - t)⟩ : G) = ⟨t, r, up 0 (min (k + 1) t), up t (k + 1 - t)⟩
    rw [show min k t = k by omega, show min (k + 1) t = k + 1 by omega, show k - t = 0 by omega, show k + 1 - t = 0 by omega, up_succ, Nat.zero_add]
  · have h3 : ¬ (stA t r k).i.length < (stA t r k).t := by rw [l1]; show ¬ min k t < t; omega
    have h4 : (stA t r k).w.length < (stA t r k).r := by rw [l2]; show k - t < r; omega
    refine ⟨((if_neg h1).trans ((if_neg h2).trans ((if_neg h3).trans (if_pos h4)))).trans (if_neg hkt).symm, ((if_neg h1).trans ((if_neg h2).trans ((if_neg h3).trans (if_pos h4)))).trans ?_⟩
    show (⟨t, r, up 0 (min k t), up t (k - t) ++ [(k : Int)]⟩ : G) = ⟨t, r, up 0 (min (k + 1) t), up t (k + 1 - t)⟩
    rw [show min k t = t by omega, show min (k + 1) t = t by omega, show k + 1 - t = (k - t) + 1 by omega, up_succ, show t + (k - t) = k by omega]

/-- The gate is full; then one leaves. -/
theorem away_facts (t r : Nat) (ht : 1 ≤ t) : askA (stA t r (t + r)) (-1) = 0 ∧ askG (stA t r (t + r)) (-1) = stA t r (t + r) ∧ (leaveL (stA t r (t + r)) 0).length = min 1 r ∧
    askA (leaveG (stA t r (t + r)) 0) (-1) = if r = 0 then 1 else 2 := by
  have n1 : (-1 : Int) ∉ (stA t r (t + r)).i := by intro h; obtain ⟨i, h1, _⟩ := (mem_up _ _ _).1 h; omega
  have n2 : (-1 : Int) ∉ (stA t r (t + r)).w := by intro h; obtain ⟨i, h1, _⟩ := (mem_up _ _ _).1 h; omega
  have l1 : (stA t r (t + r)).i.length = t := by show (up 0 (min (t + r) t)).length = t; rw [up_length]; omega
  have l2 : (stA t r (t + r)).w.length = r := by show (up t (t + r - t)).length = r; rw [up_length]; omega
  have h3 : ¬ (stA t r (t + r)).i.length < (stA t r (t + r)).t := by rw [l1]; show ¬ t < t; omega
  have h4 : ¬ (stA t r (t + r)).w.length < (stA t r (t + r)).r := by rw [l2]; show ¬ r < r; omega
  have m1 : (0 : Int) ∈ (stA t r (t + r)).i := (mem_up _ _ _).2 ⟨0, rfl, Nat.le_refl _, by show 0 < 0 + min (t + r) t; omega⟩
  have m2 : (0 : Int) ∉ (stA t r (t + r)).w := by intro h; obtain ⟨i, h1, h2, _⟩ := (mem_up _ _ _).1 h; omega
  have b1 : (but (stA t r (t + r)).i 0).length = t - 1 := by
    have e : but (stA t r (t + r)).i 0 = (stA t r (t + r)).i.erase 0 := by
      have hnd : (stA t r (t + r)).i.Nodup := up_nodup _ _
      rw [hnd.erase_eq_filter]; rfl
    rw [e, List.length_erase_of_mem m1, l1]
  have b2 : but (stA t r (t + r)).w 0 = (stA t r (t + r)).w := but_none _ _ m2
  have hm : many (stA t r (t + r)) 0 = min 1 r := by
    unfold many
    rw [b1, b2, l2]
    show Nat.min (t - (t - 1)) r = min 1 r
    rw [show t - (t - 1) = 1 by omega]
  have hl : (leaveL (stA t r (t + r)) 0).length = min 1 r := by
    unfold leaveL
    rw [List.length_take, hm, b2, l2]; omega
  refine ⟨(if_neg n1).trans ((if_neg n2).trans ((if_neg h3).trans (if_neg h4))), (if_neg n1).trans ((if_neg n2).trans ((if_neg h3).trans (if_neg h4))), hl, ?_⟩
  have hall := leave_all (stA t r (t + r)) 0
  have k1 : (-1 : Int) ∉ (leaveG (stA t r (t + r)) 0).i ++ (leaveG (stA t r (t + r)) 0).w := by
    rw [hall]
    intro h
    have h5 := ((mem_but _ _ _).1 h).1
    rcases List.mem_append.1 h5 with h6 | h6
    · exact n1 h6
    · exact n2 h6
  have k2 : (-1 : Int) ∉ (leaveG (stA t r (t + r)) 0).i := fun h => k1 (List.mem_append.2 (.inl h))
  have k3 : (-1 : Int) ∉ (leaveG (stA t r (t + r)) 0).w := fun h => k1 (List.mem_append.2 (.inr h))
  have li : (leaveG (stA t r (t + r)) 0).i.length = t - 1 + min 1 r := by
    show (but (stA t r (t + r)).i 0 ++ leaveL (stA t r (t + r)) 0).length = _
    rw [List.length_append, b1, hl]
  have lw : (leaveG (stA t r (t + r)) 0).w.length = r - min 1 r := by
    show ((but (stA t r (t + r)).w 0).drop (many (stA t r (t + r)) 0)).length = _
    rw [List.length_drop, b2, hm, l2]
  by_cases hr : r = 0
  · rw [if_pos hr]
    refine (if_neg k2).trans ((if_neg k3).trans (if_pos ?_))
    rw [li]; show t - 1 + min 1 r < t; omega
  · rw [if_neg hr]
    refine (if_neg k2).trans ((if_neg k3).trans ((if_neg ?_).trans (if_pos ?_)))
    · rw [li]; show ¬ t - 1 + min 1 r < t; omega
    · rw [lw]; show r - min 1 r < r; omega

theorem away_walk (tk rm : Int) (w : World) (h1 : (Lit.int .u8 tk).wf = true) (h2 : (Lit.int .u8 rm).wf = true) :
    Calls Try.prog 7 #[.int .u8 tk, .int .u8 rm] w fun e w' => e = .returned (.bool true) ∧ Below w.heap.size w w' := by
  obtain ⟨t0, t1⟩ := wf_u8 h1
  obtain ⟨r0, r1⟩ := wf_u8 h2
  obtain ⟨T, hT⟩ : ∃ T : Nat, (T : Int) = tk % 16 + 1 := ⟨(tk % 16 + 1).toNat, by omega⟩
  obtain ⟨R, hR⟩ : ∃ R : Nat, (R : Int) = rm % 65 := ⟨(rm % 65).toNat, by omega⟩
  have hN : newG (tk % 16 + 1) (rm % 65) = stA T R 0 := by
    show (⟨clampT (tk % 16 + 1), clampR (rm % 65), [], []⟩ : G) = ⟨T, R, up 0 (min 0 T), up T (0 - T)⟩
    have e1 : clampT (tk % 16 + 1) = T := by unfold clampT; rw [if_neg (by omega), if_neg (by omega)]; omega
    have e2 : clampR (rm % 65) = R := by unfold clampR; rw [if_neg (by omega), if_neg (by omega)]; omega
    rw [e1, e2, Nat.zero_min, Nat.zero_sub]
    rfl
  have hk0 := newG_ok (tk % 16 + 1) (rm % 65)
  rw [hN] at hk0
  have HN := hid_mk hN
  clear hN
  go_enter Try.func7, Try.ntmps7
  go_wp2_with fail
  refine (awake_any _).mono ?_
  rintro e w1 ⟨rfl, b1⟩
  go_wp2_with fail
  refine (new_any _ _ _).mono ?_
  rintro e w2 ⟨rfl, ⟨F2, h2⟩, b2⟩
  rw [HN.out] at h2
  go_wp2_with fail
  go_loopw [8] (fun i wr => ∃ (k : Nat) (F : Nat → Prop), i = .int .i64 k ∧ k ≤ T + R ∧ Gate w1.heap.size wr w1.heap.size (stA T R k) F ∧ (stA T R k).ok ∧ Below w1.heap.size w1 wr) (fun i _ => T + R - (intOf i).toNat)
  case atStart => exact ⟨0, _, rfl, Nat.zero_le _, h2, hk0, b2⟩
  case round =>
    clear h2 b2 hk0
    obtain ⟨k, F, rfl, hk, ht, hok, hb⟩ := hrel
    by_cases hlt : k < T + R
    · obtain ⟨s1, s2⟩ := stA_step T R k hlt
      have hok2 := askG_ok _ (k : Int) hok
      rw [s2] at hok2
      have S2 := hid_mk s2
      by_cases hkt : k < T
      · have S1 := hid_mk (s1.trans (if_pos hkt))
        clear s1 s2
        go_wp2_with fail
        refine (ask_any _ _ _ _ _ _ ht hok).mono ?_
        rintro e w3 ⟨rfl, F3, h3, m3⟩
        rw [S1.out]
        rw [S2.out] at h3
        have hb3 := hb.trans (ht.moved m3)
        go_wp2_with fail
        exact ⟨⟨k + 1, _, by go_num, by omega, h3, hok2, hb3⟩, by simp [intOf]; omega⟩
      · have S1 := hid_mk (s1.trans (if_neg hkt))
        clear s1 s2
        go_wp2_with fail
        refine (ask_any _ _ _ _ _ _ ht hok).mono ?_
        rintro e w3 ⟨rfl, F3, h3, m3⟩
        rw [S1.out]
        rw [S2.out] at h3
        have hb3 := hb.trans (ht.moved m3)
        go_wp2_with fail
        exact ⟨⟨k + 1, _, by go_num, by omega, h3, hok2, hb3⟩, by simp [intOf]; omega⟩
    · obtain rfl : k = T + R := by omega
      obtain ⟨f1, f2, f3, f4⟩ := away_facts T R (by omega)
      have hok2 := leaveG_ok _ 0 hok
      have F1 := hid_mk f1; have F2 := hid_mk f2; have F3 := hid_mk f3; have F4 := hid_mk f4
      clear f1 f2 f3 f4
      go_wp2_with fail
      refine (ask_any _ _ _ _ _ _ ht hok).mono ?_
      rintro e w3 ⟨rfl, Fa, h3, m3⟩
      rw [F1.out]
      rw [F2.out] at h3
      have hb3 := hb.trans (ht.moved m3)
      go_wp2_with fail
      refine (leave_any _ _ _ _ _ _ h3 hok).mono ?_
      rintro e w4 ⟨v4, rfl, hv4, Fb, h4, m4, _⟩
      have hb4 := hb3.trans (h3.moved m4)
      obtain ⟨A4, cap4, rfl, _, _, _⟩ := ownsRow_shape hv4
      rw [F3.out]
      go_wp2_with fail
      refine (ask_any _ _ _ _ _ _ h4 hok2).mono ?_
      rintro e w5 ⟨rfl, Fc, h5, m5⟩
      rw [F4.out]
      have hb5 := hb4.trans (h4.moved m5)
      by_cases hr : R = 0
      · have q1 : rm % 65 = 0 := by omega
        rw [if_pos hr, show min 1 R = 0 by omega]
        go_wp2_with fail
        go_ret
        refine ⟨?_, bthen b1 hb5⟩
        simp
      · have q1 : 0 < rm % 65 := by omega
        have q2 : (rm % 65 == 0) = false := beq_eq_false_iff_ne.2 (by omega)
        rw [if_neg hr, show min 1 R = 1 by omega]
        go_wp2_with fail
        go_ret
        exact ⟨rfl, bthen b1 hb5⟩

end Go.Proofs.Ytjbjkkicfdaljac
