/- slices.Insert, Delete, Clone at entries and at nodes. Printed by genslices.py. -/
import Derived.Test.YtaoamkkgiiiejaaTreeC
namespace Go.Proofs.Ytaoamkkgiiiejaa
open Go.RowKit
set_option linter.unusedVariables false
attribute [local go_sem ↓] Go.wp_at_zero Go.wp_at_succ


set_option maxHeartbeats 1500000 in
set_option maxRecDepth 100000 in
theorem insertN_any (B : Nat) (v : Value) (n i vb : Nat) (I : Int) (hI : I = (i : Int)) (xs : List Value) (ys : Array Value) (w : World) (h : Rw B w 56 1 v n xs) (h1 : ∀ u ∈ xs, u.oneCell' = true) (hi : i ≤ n) (hn : n < 1000000000000) (hB : B ≤ w.heap.size)
    (hvb : w.heap[vb]? = some (.cells ys 56 (0, 0))) (hys : ys.size = 1) (hy1 : ∀ u ∈ ys.toList, u.oneCell' = true) (hne : v.ownBlock ≠ some vb) (R : List Value) (hR : Hid (R = xs.take (i * 1) ++ ys.toList ++ xs.drop (i * 1))) :
    Calls Try.prog 34 #[v, .int .i64 I, .slice (some ⟨vb, 0, none⟩) 1 1] w fun e w' => ∃ v', e = .returned v' ∧ Rw B w' 56 1 v' (n + 1) R ∧ Mv (own v) (own v') w w' := by
  subst hI
  obtain ⟨i0, hi0, hz0, hzs, hzb⟩ := info_parts infoN
  have hyl : ys.toList.length = 1 * 1 := by rw [Array.length_toList, hys]
  have hvc : ∀ j u, ys.toList[j]? = some u → w.cell? ((⟨vb, 0, none⟩ : Addr).add j) = some u := fun j u hu => by
    rw [add0, cell_of_row w vb j _ _ _ hvb]; simpa using hu
  rcases Nat.lt_or_ge i n with hin | hin
  · obtain ⟨A, cap, rfl, hnc, hcm, hA0, hA⟩ := h.shape
    rcases A with _ | A
    · have := (hA0 rfl).1; omega
    obtain ⟨g, rfl, hBg, hgl, ⟨cur, hg, hcs⟩, hxc⟩ := hA _ rfl
    have hvg : vb ≠ g := fun e => hne (by rw [e]; rfl)
    have hx := h.1
    have htk : cur.toList.take (n * 1) = xs := by
      rcases h.2 with ⟨h', _⟩ | ⟨g', cap', cur', h', _, hg', _, _, _, ht⟩
      · cases h'
      · simp only [Value.slice.injEq, Option.some.injEq, Addr.mk.injEq, and_true, true_and] at h'
        obtain ⟨rfl, rfl⟩ := h'
        rw [hg] at hg'
        injection hg' with hg'
        injection hg' with e1
        rw [e1]; exact ht
    have hdl : (xs.drop (i * 1)).length = (n - i) * 1 := by rw [List.length_drop, hx, Nat.sub_mul]
    have hsrc : ∀ (W : World), (W.heap[g]? = w.heap[g]?) → ∀ j u, (xs.drop (i * 1))[j]? = some u → W.cell? ((⟨g, i * 1, none⟩ : Addr).add j) = some u := fun W hW j u hu => by
      rw [Addr.add_lit, World.cell?_of_block (w := w) hW]
      exact hxc _ u (by rwa [List.getElem?_drop] at hu)
    have hni : ¬ ((i : Int) = (n : Int)) := by omega
    have hw1 : IntKind.i64.wrap ((i : Int) + 1) = (i : Int) + 1 := by rw [IntKind.wrap_i64]; omega
    have hb1 : (0 : Int) ≤ (i : Int) + 1 := by omega
    have hin' : i ≤ n := by omega
    have htn : ((i : Int) + 1).toNat = i + 1 := by omega
    have hb2 : ¬ (cap = i + 1 ∧ n + 1 ≤ cap) := by omega
    have hb4 : ¬ (cap = i) := by omega
    have hb5 : (i : Int) ≤ (n : Int) := by omega
    have he1 : (i + 1) * 1 = i * 1 + 1 := by rw [Nat.add_mul, Nat.one_mul]
    have HX := hid_mk hx
    have HTK := hid_mk htk
    have HDL := hid_mk hdl
    have HE1 := hid_mk he1
    have HYL := hid_mk hyl
    clear hA0 hA hx htk hdl he1
    by_cases hroom : n + 1 ≤ cap
    · have hb3 : ¬ (cap = i + 1) := by omega
      have hb6 : (i : Int) ≤ (n : Int) + 1 := by omega
      have hfit : (n + 1) * 1 ≤ cur.size := Nat.le_trans (Nat.mul_le_mul_right _ hroom) hcs
      have hle : i * 1 ≤ n * 1 := Nat.mul_le_mul_right _ hin'
      have hov : ∀ ob lb cb, (callFunc 45 #[.slice (some ⟨vb, 0, none⟩) 1 1, .slice (some ⟨g, ob, none⟩) lb cb]).run Try.prog w = .ok (.value (.bool false)) w := fun ob lb cb => by
        rw [run_callFunc_extern Try.func45 (by kernel_rfl) (by kernel_rfl) (by kernel_rfl) (e := Extern.SlicesOverlaps.overlaps #[59, 59] #[4]) (by kernel_rfl),
          Lib.run_overlaps_apart w 59 4 56 Try.underlying59 1 sizeOfN ⟨vb, 0, none⟩ ⟨g, ob, none⟩ 1 1 lb cb hvg 56 56 1 cur.size (by simp [World.shape?, hvb, hys]) (by simp [World.shape?, hg]) (by omega) (by simp [World.frozen?, hvb]) (by simp [World.frozen?, hvb])]
        rfl
      obtain ⟨c1, hc1⟩ : ∃ c1 : List Value, c1 = cur.toList.take ((i + 1) * 1) ++ xs.drop (i * 1) ++ cur.toList.drop ((i + 1) * 1 + (xs.drop (i * 1)).length) := ⟨_, rfl⟩
      have hsh := shift_row cur.toList xs ys.toList 1 n i HX.out hin' (by rw [HYL.out, Nat.one_mul]) (by rw [Array.length_toList]; exact hfit) HTK.out c1 hc1
      obtain ⟨c2, hc2⟩ : ∃ c2 : List Value, c2 = c1.take (i * 1) ++ ys.toList ++ c1.drop (i * 1 + ys.toList.length) := ⟨_, rfl⟩
      have hcp1 : ∀ ty dc sc, (Builtin.copy_ #[59, 59] ty #[.slice (some ⟨g, (i + 1) * 1, none⟩) (n - i) dc, .slice (some ⟨g, i * 1, none⟩) (n + 1 - i) sc]).run Try.prog w.drew = .ok (goInt (n - i : Nat)) (w.drew.setRow g c1.toArray) := fun ty dc sc => by
        have hh := run_copy_rw (P := Try.prog) w.drew 59 59 ty 56 i0 1 g ((i + 1) * 1) (n - i) dc ⟨g, i * 1, none⟩ (n + 1 - i) sc (n - i) cur (xs.drop (i * 1)) Try.underlying59 hi0 hzs (by simp only [Nat.min_def]; split <;> omega) HDL.out (hsrc w.drew rfl) hg
          (by rw [HDL.out, ← Nat.add_mul]; exact Nat.le_trans (Nat.mul_le_mul_right _ (by omega)) hfit) (fun u hu => h1 u (List.mem_of_mem_drop hu))
        rw [← hc1] at hh
        exact hh
      obtain ⟨W1, hW1⟩ : ∃ W1, W1 = w.drew.setRow g c1.toArray := ⟨_, rfl⟩
      have hg1 : W1.heap[g]? = some (.cells c1.toArray 56 (0, 0)) := by rw [hW1]; exact setRow_heap w.drew g cur _ _ _ hg
      have hvb1 : W1.heap[vb]? = some (.cells ys 56 (0, 0)) := by rw [hW1, setRow_other w.drew g vb _ hvg]; exact hvb
      have hcp2 : ∀ ty dc, (Builtin.copy_ #[59, 59] ty #[.slice (some ⟨g, i * 1, none⟩) (n + 1 - i) dc, .slice (some ⟨vb, 0, none⟩) 1 1]).run Try.prog W1 = .ok (goInt (1 : Nat)) (W1.setRow g c2.toArray) := fun ty dc => by
        have hh := run_copy_rw (P := Try.prog) W1 59 59 ty 56 i0 1 g (i * 1) (n + 1 - i) dc ⟨vb, 0, none⟩ 1 1 1 c1.toArray ys.toList Try.underlying59 hi0 hzs (by simp only [Nat.min_def]; split <;> omega) HYL.out (fun j u hu => by
          rw [add0, cell_of_row W1 vb j _ _ _ hvb1]; simpa using hu) hg1 (by rw [HYL.out, List.size_toArray, hsh.2, Array.length_toList, ← Nat.add_mul]; exact Nat.le_trans (Nat.mul_le_mul_right _ (by omega)) hfit) hy1
        rw [hc2]; exact hh
      rw [← hW1] at hcp1
      simp only [Nat.mul_one] at hcp1 hcp2
      --
      have HW1 := hid_mk hW1
      have HC2 := hid_mk hc2
      have HSH := hid_mk hsh
      clear hW1 hc1 hc2 hsh hb2
      go_enter Try.func34, Try.ntmps34
      go_wp2_with (simp only [hov])
      go_region_law (refine step_copy_runR rfl (.tmp 73) (.tmp 76) 59 59 rfl _ _ (by simp [Act.eval, Act.put]) (by simp [Act.eval, Act.put]) (hcp1 _ _ _) ?_)
      go_wp2_with (at_builtin; refine wpList_copy_runR _ rfl (.tmp 80) (.tmp 81) 59 59 rfl _ _ rfl rfl (hcp2 _ _) ?_)
      go_ret
      have hW := HW1.out
      subst hW
      refine ⟨_, rfl, ⟨?_, .inr ⟨g, cap, _, rfl, hBg, setRow_heap (w.drew.setRow g c1.toArray) g _ _ _ _ hg1, hroom, by simp only [maxLen]; omega, ?_, by rw [hR.out, HC2.out]; exact HSH.out.1⟩⟩, rfl, rfl, rfl, by simp [World.setRow], fun k hk hc => ?_, fun k hk => .inl hk⟩
      · rw [hR.out]
        simp only [List.length_append, List.length_take, List.length_drop, HX.out, HYL.out]
        omega
      · have h5 := HSH.out.2
        rw [HC2.out]
        simp only [List.size_toArray, List.length_append, List.length_take, List.length_drop, HYL.out, h5]
        rw [Array.length_toList]
        omega
      · have hkg : k ≠ g := fun e => hc (by rw [e]; rfl)
        exact (setRow_other _ g k _ hkg).trans (setRow_other w.drew g k _ hkg)
    · obtain rfl : n = cap := by omega
      have hbig : (n + 1) * 8 ≤ 140737488355328 := by omega
      have hle : i * 1 ≤ n * 1 := Nat.mul_le_mul_right _ hin'
      have hkk : (n : Int) + 1 - (i : Int) = ((n + 1 - i : Nat) : Int) := by omega
      have hik : i + (n + 1 - i) = n + 1 := by omega
      have htl : (xs.take (i * 1)).length = i * 1 := by rw [List.length_take, HX.out]; omega
      have hold : (Builtin.firstCells i0.size i (.slice (some ⟨g, 0, none⟩) i n)).run Try.prog w.drew = .ok (xs.take (i * 1)).toArray w.drew := by
        rw [hzs]
        exact run_firstCells_some w.drew 1 i ⟨g, 0, none⟩ i n (xs.take (i * 1)) htl (fun j u hj => by
          rw [add0]
          rw [List.getElem?_take] at hj
          split at hj
          · exact hxc j u hj
          · cases hj)
      have hrz : ∀ ty, (Builtin.append_ #[59, 3] ty #[.slice (some ⟨g, 0, none⟩) i n, .int .i64 ((n : Int) + 1 - (i : Int))]).run Try.prog w =
          .ok (.slice (some ⟨w.heap.size, 0, none⟩) (n + 1) (grownCap w (n + 1) n 56)) (w.drew.alloc (.cells ((xs.take (i * 1)).toArray ++ Builtin.zeroCells (Value.pointer none).cells (n + 1 - i) ++ Builtin.zeroCells (Value.pointer none).cells (grownCap w (n + 1) n 56 - (n + 1))) 56)) := fun ty => by
        have hh := Lib.run_append_grow_zeros w 59 3 ty 56 i0 _ .i64 .i64 Try.underlying59 Try.underlying3 hi0 hz0 (some ⟨g, 0, none⟩) i n (xs.take (i * 1)) hold (n + 1 - i) (by omega) (by omega) (by omega) (by omega) (by rw [hzb]; omega) (by rw [hzb, hik]; exact growslice_fits (by omega) hbig)
        rw [hik] at hh
        rw [hkk]
        exact hh
      have hG1 := grownCap_ge w (n + 1) n 56
      have hG2 := grownCap_le_maxLen w (n + 1) n 56 (by simp only [maxLen]; omega)
      simp only [maxLen] at hG2
      obtain ⟨G, hG⟩ : ∃ G, G = grownCap w (n + 1) n 56 := ⟨_, rfl⟩
      rw [← hG] at hrz hG1 hG2
      obtain ⟨zs, hzs'⟩ : ∃ zs : List Value, zs = (Builtin.zeroCells (Value.pointer none).cells (n + 1 - i)).toList ++ (Builtin.zeroCells (Value.pointer none).cells (G - (n + 1))).toList := ⟨_, rfl⟩
      have hzl : zs.length = (n + 1 - i) * 1 + (G - (n + 1)) * 1 := by
        rw [hzs', List.length_append, Array.length_toList, Array.length_toList, size_zeroCells, size_zeroCells]; rfl
      obtain ⟨c0, hc0⟩ : ∃ c0 : List Value, c0 = xs.take (i * 1) ++ zs := ⟨_, rfl⟩
      have hc0l : c0.length = i * 1 + zs.length := by rw [hc0, List.length_append, htl]
      have hROW : (xs.take (i * 1)).toArray ++ Builtin.zeroCells (Value.pointer none).cells (n + 1 - i) ++ Builtin.zeroCells (Value.pointer none).cells (G - (n + 1)) = c0.toArray := by
        rw [hc0, hzs']; apply Array.ext'; simp
      rw [hROW] at hrz
      obtain ⟨c1, hc1⟩ : ∃ c1 : List Value, c1 = c0.take (i * 1) ++ ys.toList ++ c0.drop (i * 1 + ys.toList.length) := ⟨_, rfl⟩
      obtain ⟨c2, hc2⟩ : ∃ c2 : List Value, c2 = c1.take ((i + 1) * 1) ++ xs.drop (i * 1) ++ c1.drop ((i + 1) * 1 + (xs.drop (i * 1)).length) := ⟨_, rfl⟩
      have hfit : (n + 1) * 1 ≤ c0.length := by rw [hc0l, hzl]; omega
      have hsh := grown_row xs ys.toList zs 1 n i HX.out hin' (by rw [HYL.out, Nat.one_mul]) c0 c1 c2 hc0 hfit hc1 hc2
      obtain ⟨N, hN⟩ : ∃ N, N = w.heap.size := ⟨_, rfl⟩
      have hgN : g ≠ N := by omega
      have hvN : vb ≠ N := by have := lt_of_block hvb; omega
      have hcpA : ∀ (W : World), W.heap = w.heap.push (.cells c0.toArray 56) → ∀ ty dc, (Builtin.copy_ #[59, 59] ty #[.slice (some ⟨N, i * 1, none⟩) (n + 1 - i) dc, .slice (some ⟨vb, 0, none⟩) 1 1]).run Try.prog W = .ok (goInt (1 : Nat)) (W.setRow N c1.toArray) := fun W hW ty dc => by
        have hWN : W.heap[N]? = some (.cells c0.toArray 56 (0, 0)) := by rw [hW, hN]; simp
        have hWv : W.heap[vb]? = some (.cells ys 56 (0, 0)) := by
          rw [hW, Array.getElem?_push, if_neg (by omega)]; exact hvb
        have hh := run_copy_rw (P := Try.prog) W 59 59 ty 56 i0 1 N (i * 1) (n + 1 - i) dc ⟨vb, 0, none⟩ 1 1 1 c0.toArray ys.toList Try.underlying59 hi0 hzs (by simp only [Nat.min_def]; split <;> omega) HYL.out (fun j u hu => by
          rw [add0, cell_of_row W vb j _ _ _ hWv]; simpa using hu) hWN (by rw [HYL.out, List.size_toArray, ← Nat.add_mul]; exact Nat.le_trans (Nat.mul_le_mul_right _ (by omega)) hfit) hy1
        rw [hc1]; exact hh
      have hcpB : ∀ (W : World), W.heap[N]? = some (.cells c1.toArray 56 (0, 0)) → W.heap[g]? = w.heap[g]? → ∀ ty dc sc, (Builtin.copy_ #[59, 59] ty #[.slice (some ⟨N, (i + 1) * 1, none⟩) (n - i) dc, .slice (some ⟨g, i * 1, none⟩) (n - i) sc]).run Try.prog W = .ok (goInt (n - i : Nat)) (W.setRow N c2.toArray) := fun W hWN hWg ty dc sc => by
        have hh := run_copy_rw (P := Try.prog) W 59 59 ty 56 i0 1 N ((i + 1) * 1) (n - i) dc ⟨g, i * 1, none⟩ (n - i) sc (n - i) c1.toArray (xs.drop (i * 1)) Try.underlying59 hi0 hzs (by simp only [Nat.min_def]; split <;> omega) HDL.out (hsrc W hWg) hWN
          (by rw [HDL.out, ← Nat.add_mul, List.size_toArray, hsh.2.1]; exact Nat.le_trans (Nat.mul_le_mul_right _ (by omega)) hfit) (fun u hu => h1 u (List.mem_of_mem_drop hu))
        rw [hc2]; exact hh
      have hNw : (w.alloc (.cells c0.toArray 56)).drew.heap[N]? = some (.cells c0.toArray 56 (0, 0)) := by rw [hN]; exact heap_alloc_new w _
      have HSA : Hid ((((w.alloc (.cells c0.toArray 56)).drew.setRow N c1.toArray).drew).heap[N]? = some (.cells c1.toArray 56 (0, 0))) := hid_mk (setRow_heap (w.alloc (.cells c0.toArray 56)).drew N _ _ _ _ hNw)
      have HSB : Hid ((((w.alloc (.cells c0.toArray 56)).drew.setRow N c1.toArray).drew).heap[g]? = w.heap[g]?) := hid_mk ((setRow_other (w.alloc (.cells c0.toArray 56)).drew N g _ hgN).trans (heap_alloc_old w _ hgl))
      have HNW := hid_mk hNw
      have hcpA' := hcpA (w.alloc (.cells c0.toArray 56)).drew rfl
      simp only [Nat.mul_one] at hcpA' hcpB
      have hcpB' := hcpB ((w.alloc (.cells c0.toArray 56)).drew.setRow N c1.toArray).drew HSA.out HSB.out
      clear hcpA hcpB
      clear hNw
      have hGi : ¬ (G = i) := by omega
      have hGim : ¬ (G = i + 1) := by omega
      have hni' : ¬ (n = i) := by omega
      have hz3 : (n : Int) < (n : Int) + 1 := by omega
      rw [← hN] at hrz
      have HSH := hid_mk hsh
      have HNN := hid_mk hN
      have HC0 := hid_mk hc0l
      have HZL := hid_mk hzl
      have HFIT := hid_mk hfit
      clear hc0 hc1 hc2 hROW hG hN hzs' hsh hik hkk hold htl hc0l hzl hfit hb2 hb4 hb5
      go_enter Try.func34, Try.ntmps34
      go_wp2_with (first | (at_builtin; refine Lib.wpList_append_run _ rfl _ _ _ _ rfl _ _ rfl rfl _ _ (hrz _) ?_) | (refine wpList_copy_runR _ rfl (.tmp 43) (.tmp 44) 59 59 rfl _ _ rfl rfl (hcpA' _ _) ?_))
      go_region_law (refine step_copy_runR rfl (.tmp 50) (.tmp 53) 59 59 rfl _ _ (by simp [Act.eval, Act.put]) (by simp [Act.eval, Act.put]) (hcpB' _ _ _) ?_)
      go_wp2_with fail
      go_ret
      refine ⟨_, rfl, ⟨?_, .inr ⟨N, G, c2.toArray, rfl, by rw [HNN.out]; exact hB, setRow_heap ((w.alloc (.cells c0.toArray 56)).drew.setRow N c1.toArray).drew N _ _ _ _ HSA.out, by omega, by simp only [maxLen]; omega, ?_, by rw [hR.out]; exact HSH.out.1⟩⟩, rfl, rfl, rfl, by simp [World.setRow], fun k hk hc => ?_, fun k hk => .inr ?_⟩
      · rw [hR.out]
        simp only [List.length_append, List.length_take, List.length_drop, HX.out, HYL.out]
        omega
      · rw [List.size_toArray, HSH.out.2.2, HC0.out, HZL.out]
        omega
      · have hkN : k ≠ N := by rw [HNN.out]; omega
        exact (setRow_other ((w.alloc (.cells c0.toArray 56)).drew.setRow N c1.toArray).drew N k _ hkN).trans ((setRow_other (w.alloc (.cells c0.toArray 56)).drew N k _ hkN).trans (heap_alloc_old w _ hk))
      · have e : N = k := by simpa [own, Value.ownBlock] using hk
        rw [← e, HNN.out]
        exact Nat.le_refl _
  · obtain rfl : i = n := by omega
    have HRR : Hid (R = xs ++ ys.toList) := hid_mk (by rw [hR.out, ← h.1, List.take_length, List.drop_length, List.append_nil])
    obtain ⟨v', w', hr, hrow, hmv⟩ := run_app_rw h hB 59 59 i0 _ 8 Try.underlying59 hi0 hz0 hzs hzb rfl (by omega) ⟨vb, 0, none⟩ 1 1 (by omega) ys.toList hyl hvc hy1 (by omega) (by omega)
    rw [← HRR.out] at hrow
    have hq : ((i : Int) == (i : Int)) = true := by simp
    obtain ⟨A, cap, rfl, hnc, hcm, hA0, hA⟩ := h.shape
    have HROW := hid_mk hrow
    rcases A with _ | ⟨ag, ao, asp⟩
    · obtain ⟨rfl, rfl, rfl⟩ := hA0 rfl
      clear hA0 hA hyl hvc
      go_enter Try.func34, Try.ntmps34
      go_wp2_with (at_builtin; refine Lib.wpList_append_run _ rfl _ _ 59 59 rfl _ _ rfl rfl _ _ hr ?_)
      go_ret
      exact ⟨_, rfl, HROW.out, hmv⟩
    · obtain ⟨g, hag, _⟩ := hA _ rfl
      injection hag with e1 e2 e3
      subst e1 e2 e3
      clear hA0 hA hyl hvc
      go_enter Try.func34, Try.ntmps34
      go_wp2_with (at_builtin; refine Lib.wpList_append_run _ rfl _ _ 59 59 rfl _ _ rfl rfl _ _ hr ?_)
      all_goals (go_ret; exact ⟨_, rfl, HROW.out, hmv⟩)

theorem stepcutN {B g n cap : Nat} {w : World} {xs : List Value} {ops : Array Oper} {o : Oper} {a : Act} {K : Act → World → Prop} {Q : Exit → Act → World → Prop} {E : Prop}
    (h : Rw B w 56 1 (.slice (some ⟨g, 0, none⟩) n cap) n xs) (i j : Nat) (hij : i ≤ j) (hj : j ≤ n) (h1 : ∀ u ∈ xs, u.oneCell' = true)
    (hgd : o.guard = none) (s x : Operand) (hop : o.op = Op.call { callee := Callee.builtin Builtin.append, args := #[s, x], argTypes := #[59, 59] })
    (hs : a.eval s = .slice (some ⟨g, 0, none⟩) i cap) (A : Addr) (m c : Nat) (hx : a.eval x = .slice (some A) m c)
    (hA : j < n → A = ⟨g, j * 1, none⟩) (hm : m = n - j)
    (hK : ∀ w', Rw B w' 56 1 (.slice (some ⟨g, 0, none⟩) (i + m) cap) (i + m) (xs.take (i * 1) ++ xs.drop (j * 1)) → w.grownBy w' (some g) → K (a.put o.dst (.slice (some ⟨g, 0, none⟩) (i + m) cap)) w') :
    if Region.wanted o (yielded ops a.tmps) = true then Oper.wp Try.prog o a w K Q else E := by
  have hw : Region.wanted o (yielded ops a.tmps) = true := by simp [Region.wanted, hgd]
  rw [if_pos hw]
  obtain ⟨i0, hi0, hz0, hz1, hz2⟩ := info_parts infoN
  obtain ⟨w', hrun, hown, hg⟩ := run_cut_rw (P := Try.prog) h i j hij hj h1 59 o.type i0 Try.underlying59 hi0 hz1 A hA m c hm
  unfold Oper.wp
  simp [execOp, hop, resolve, invoke, builtin, hs, hx, hrun, Result.andThen]
  exact hK w' hown hg

theorem clearN {B g n cap : Nat} {w : World} {xs : List Value} {ops : Array Oper} {rest : List Oper} {o : Oper} {a : Act} {Q : Exit → Act → World → Prop} (hgd : o.guard = none) (x : Operand)
    (hop : o.op = Op.call { callee := Callee.builtin Builtin.clear, args := #[x], argTypes := #[59] })
    (h : Rw B w 56 1 (.slice (some ⟨g, 0, none⟩) n cap) n xs) (m c off : Nat) (hx : a.eval x = .slice (some ⟨g, off, none⟩) m c) (hm : 0 < m) (hmc : n + m ≤ cap) (hoff : off = n * 1)
    (hK : ∀ w', Rw B w' 56 1 (.slice (some ⟨g, 0, none⟩) n cap) n xs → w.grownBy w' (some g) → wpList Try.prog ops Q rest (a.put o.dst (.tuple #[])) w') : wpList Try.prog ops Q (o :: rest) a w := by
  refine wpList_plain hgd fun K hK' => ?_
  obtain ⟨w', hrun, hown, hg⟩ := run_clear_rw (P := Try.prog) h m c off hm hmc hoff 59 o.type Try.underlying59 _ zeroN rfl (by intro u hu; simp [Value.cells] at hu; rcases hu with rfl | rfl <;> rfl)
  unfold Oper.wp execOp
  simp only [hop, resolve, invoke, builtin, Sem.run_bind, Sem.run_pure, Result.andThen_ok, List.map_toArray, List.map_cons, List.map_nil, hx, hrun]
  exact hK' _ _ (hK w' hown hg)

set_option maxHeartbeats 1500000 in
set_option maxRecDepth 100000 in
theorem deleteN_any (B : Nat) (v : Value) (n i : Nat) (I J : Int) (xs : List Value) (w : World) (h : Rw B w 56 1 v n xs) (h1 : ∀ u ∈ xs, u.oneCell' = true) (hi : i < n) (hn : n < 1000000000000) (hI : I = (i : Int)) (hJ : J = (i : Int) + 1)
    (R : List Value) (hR : Hid (R = xs.take (i * 1) ++ xs.drop ((i + 1) * 1))) :
    Calls Try.prog 57 #[v, .int .i64 I, .int .i64 J] w fun e w' => ∃ v', e = .returned v' ∧ Rw B w' 56 1 v' (n - 1) R ∧ Mv (own v) (own v') w w' := by
  subst hI hJ
  obtain ⟨A, cap, rfl, hnc, hcm, hA0, hA⟩ := h.shape
  rcases A with _ | A
  · have := (hA0 rfl).1; omega
  obtain ⟨g, rfl, hBg, hgl, ⟨cur, hg, hcs⟩, hxc⟩ := hA _ rfl
  have hne : ((i : Int) == (i : Int) + 1) = false := beq_eq_false_iff_ne.2 (by omega)
  obtain ⟨A, hA, HA⟩ : ∃ A : Addr, (if cap = i + 1 then some (⟨g, 0, none⟩ : Addr) else some ⟨g, i + 1, none⟩) = some A ∧ Hid (i + 1 < n → A = ⟨g, (i + 1) * 1, none⟩) := by
    by_cases hc : cap = i + 1
    · exact ⟨_, by rw [if_pos hc], fun h => by omega⟩
    · exact ⟨_, by rw [if_neg hc], fun _ => by rw [Nat.mul_one]⟩
  have b1 : (i : Int) + 1 ≤ (n : Int) := by omega
  have b2 : (i : Int) ≤ (i : Int) + 1 := by omega
  have b3 : i + 1 ≤ n := by omega
  have b4 : i + 1 ≤ cap := by omega
  have b5 : (i : Int) + 1 ≤ (cap : Int) := by omega
  have b6 : ((i : Int) + 1).toNat = i + 1 := by omega
  have b7 : (0 : Int) ≤ (i : Int) + 1 := by omega
  have b8 : (i : Int) ≤ (cap : Int) := by omega
  clear hxc hg hcs cur
  go_enter Try.func57, Try.ntmps57
  go_wp2_with fail
  go_region_law (refine stepcutN (w := w.drew) h i (i + 1) (by omega) (by omega) h1 rfl (.tmp 22) (.tmp 25) rfl (by simp [Act.eval, Act.put]) A (n - (i + 1)) (cap - (i + 1)) (by simp [Act.eval, Act.put]) HA.out rfl ?_; intro w1 hown1 hg1)
  rw [← hR.out] at hown1
  obtain ⟨q, hq⟩ : ∃ q, q = n - (i + 1) := ⟨_, rfl⟩
  rw [← hq] at hown1 ⊢
  obtain ⟨r, hr⟩ : ∃ r, r = i + q := ⟨_, rfl⟩
  rw [← hr] at hown1 ⊢
  have hr1 : Hid (r = n - 1) := hid_mk (by omega)
  have q1 : r < n := by omega
  have q2 : r ≤ n := by omega
  have q3 : ¬ (cap = r) := by omega
  have q4 : (r : Int) ≤ (n : Int) := by omega
  have q5 : r + (n - r) ≤ cap := by omega
  have HG : Mv (own (.slice (some ⟨g, 0, none⟩) n cap)) (own (.slice (some ⟨g, 0, none⟩) r cap)) w w1 := ⟨hg1.os, hg1.tape, hg1.output, hg1.size, fun j hj hc => hg1.block j hj fun e => hc e.symm, fun j hj => .inl hj⟩
  clear hq hr hg1 hA b1 b2 b3 b4 b5 b6 b7 b8
  go_wp2_with (refine clearN rfl (.tmp 31) rfl hown1 (n - r) (cap - r) _ rfl (by omega) q5 (by omega) ?_; intro w2 hown2 hg2)
  go_ret
  refine ⟨_, rfl, ?_, HG.trans (Mv.of_row hg2)⟩
  rw [← hr1.out]
  exact hown2

theorem cloneN_any (A : Addr) (m c : Nat) (cs : List Value) (w : World) (hm : 0 < m) (hn : m < 1000000000000) (hl : cs.length = m * 1) (hc : ∀ j u, cs[j]? = some u → w.cell? (A.add j) = some u) (h1 : ∀ u ∈ cs, u.oneCell' = true) :
    Calls Try.prog 44 #[.slice (some A) m c] w fun e w' => ∃ v', e = .returned v' ∧ Rw w.heap.size w' 56 1 v' m cs ∧ Below w.heap.size w w' := by
  obtain ⟨i0, hi0, hz0, hzs, hzb⟩ := info_parts infoN
  have hq : ∀ W, (binOp .eql 59 (.slice (some A) m c) (.slice none 0 0)).run Try.prog W = .ok (.bool false) W := fun W => by kernel_rfl
  have he : Rw w.heap.size (w.alloc (.cells #[] 56)) 56 1 (.slice (some ⟨w.heap.size, 0, none⟩) 0 0) 0 [] := ⟨by simp, .inr ⟨_, 0, #[], rfl, Nat.le_refl _, heap_alloc_new w _, Nat.le_refl _, Nat.zero_le _, by simp, rfl⟩⟩
  obtain ⟨v', w', hr, hrow, hmv⟩ := run_app_rw he (by simp) 59 59 i0 _ 8 Try.underlying59 hi0 hz0 hzs hzb rfl (by omega) A m c hm cs hl (fun j u hu => keep_cell (balloc _) (hc j u hu)) h1 (by omega) (by omega)
  rw [Nat.zero_add, List.nil_append] at hrow
  have HB : Below w.heap.size w w' := (balloc (.cells #[] 56)).trans (hmv.below (fun k hk => by
    have e : w.heap.size = k := by simpa [own, Value.ownBlock] using hk
    omega) (by simp))
  have HR := hid_mk hrow
  clear hc he hrow hmv
  go_enter Try.func44, Try.ntmps44
  go_wp2_with (at_builtin; refine Lib.wpList_append_run _ rfl _ _ 59 59 rfl _ _ rfl rfl _ _ hr ?_)
  go_ret
  exact ⟨_, rfl, HR.out, HB⟩

end Go.Proofs.Ytaoamkkgiiiejaa
