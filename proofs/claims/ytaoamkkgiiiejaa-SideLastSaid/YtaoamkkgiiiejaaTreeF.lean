/- A kid that is too great: parted, and what comes of it laid into its parent. -/
import Derived.Test.YtaoamkkgiiiejaaTreeE
namespace Go.Proofs.Ytaoamkkgiiiejaa
open Go.RowKit
set_option linter.unusedVariables false
attribute [local go_sem ↓] Go.wp_at_zero Go.wp_at_succ

theorem ins_ecells (l : List E) (k : Nat) (e : E) : Hid (ecells (l.take k ++ e :: l.drop k) = (ecells l).take (k * 2) ++ (#[Value.string e.key, .int .i64 e.id] : Array Value).toList ++ (ecells l).drop (k * 2)) := by
  refine hid_mk ?_
  rw [ecells_take, ecells_drop, ecells_append, ecells_cons, List.append_assoc]
theorem ins_pcells (l : List Nat) (k : Nat) (p : Nat) : Hid (pcells (l.take k ++ p :: l.drop k) = (pcells l).take (k * 1) ++ (#[Value.pointer (some ⟨p, 0, none⟩)] : Array Value).toList ++ (pcells l).drop (k * 1)) := by
  refine hid_mk ?_
  rw [pcells_take, pcells_drop, pcells_append, List.append_assoc]
  rfl
theorem ins_length {α : Type} (l : List α) (k : Nat) (e : α) (h : k ≤ l.length) : (l.take k ++ e :: l.drop k).length = l.length + 1 := by
  simp; omega
theorem Mv.frozen {F F' : Nat → Prop} {w w' : World} (h : Mv F F' w w') {a : Addr} (hb : a.block < w.heap.size) (hk : ¬ F a.block) : w'.frozen? a = w.frozen? a :=
  World.frozen?_of_block (h.block a.block hb hk)
theorem Nd.below {B : Nat} {w w' : World} {ω : Ow} {a : Nat} {v u : Value} {l : List E} {ps : List Nat} (h : Nd w ω a v u l ps) (hok : Okw B w ω) (hb : Below w.heap.size w w') : Nd w' ω a v u l ps := h.kept (Stp.of_below (S := fun _ => False) hok hb) (fun h => h)
theorem Node.below {B : Nat} {w w' : World} {ω : Ow} {a : Nat} {l : List E} {ps : List Nat} (h : Node w ω a l ps) (hok : Okw B w ω) (hb : Below w.heap.size w w') : Node w' ω a l ps := h.kept (Stp.of_below (S := fun _ => False) hok hb) (fun h => h)

set_option maxHeartbeats 1000000 in
theorem heal_small (a c k : Nat) (ω : Ow) (l lc : List E) (ps pc : List Nat) (w : World) (h : Node w ω a l ps) (hc : Node w ω c lc pc) (hk : k < ps.length) (hp : ps[k] = c) (hlc : lc.length ≤ 4) :
    Calls Try.prog 25 #[.pointer (some ⟨a, 0, none⟩), .int .i64 (k : Int)] w fun e w' => e = .returned (.tuple #[]) ∧ w = w' := by
  obtain ⟨v, u, h⟩ := h
  obtain ⟨vc, uc, hc⟩ := hc
  obtain ⟨gk, kcap, rfl, hkc, hkm, hgk, hkcell⟩ := h.kshape (by omega)
  obtain ⟨A, cap, rfl, _, _⟩ := hc.lany
  have c1 := h.cells.2.1
  have d0 := hc.cells.1
  have kk := hkcell k hk
  rw [hp] at kk
  have hk0 : (0 : Int) ≤ (k : Int) := by omega
  have hk1 : (k : Int) < (ps.length : Int) := by omega
  have hk2 : (lc.length : Int) ≤ 4 := by omega
  clear hkcell hp
  go_enter Try.func25, Try.ntmps25
  go_wp2_with fail
  first | (go_end0; exact ⟨rfl, rfl⟩) | (refine bodyPost_ret (results_none rfl _ _ _) rfl ?_; exact ⟨rfl, rfl⟩)

set_option maxHeartbeats 2000000 in
set_option maxRecDepth 100000 in
theorem heal_great (B a c k : Nat) (ω : Ow) (l lc : List E) (ps pc : List Nat) (w : World) (h : Node w ω a l ps) (hc : Node w ω c lc pc) (hok : Okw B w ω) (hB : B ≤ w.heap.size) (hown : ∀ b c, ω b = some c → c < w.heap.size)
    (hk : k < ps.length) (hp : ps[k] = c) (hac : a ≠ c) (hlc : lc.length = 5) (hpc : pc.length = 0 ∨ pc.length = 6) (hkl : k ≤ l.length) (hl : l.length < 1000) (hpl : ps.length < 1000) :
    Calls Try.prog 25 #[.pointer (some ⟨a, 0, none⟩), .int .i64 (k : Int)] w fun e w' => e = .returned (.tuple #[]) ∧ ∃ n ω', w.heap.size ≤ n ∧ Stp (fun x => x = a ∨ x = c) w ω w' ω' ∧ Okw B w' ω' ∧
      Node w' ω' a (l.take k ++ ge lc 2 :: l.drop k) (ps.take (k + 1) ++ n :: ps.drop (k + 1)) ∧ Node w' ω' c (lc.take 2) (pc.take 3) ∧ Node w' ω' n (lc.drop 3) (pc.drop 3) := by
  have HC := hid_mk hc
  obtain ⟨v, u, h⟩ := h
  obtain ⟨vc, uc, hc⟩ := hc
  obtain ⟨gk, kcap, rfl, hkc, hkm, hgk, hkcell⟩ := h.kshape (by omega)
  obtain ⟨Ac, cc, rfl, _, _⟩ := hc.lany
  obtain ⟨Al, cl, rfl, hlcap, hlcm⟩ := h.lany
  have c1 := h.cells.2.1
  have d0 := hc.cells.1
  rw [hlc] at d0
  have kk := hkcell k hk
  rw [hp] at kk
  have hk0 : (0 : Int) ≤ (k : Int) := by omega
  have hk1 : (k : Int) < (ps.length : Int) := by omega
  clear hkcell hp
  go_enter Try.func25, Try.ntmps25
  go_wp2_with fail
  refine (split_any B c ω lc pc _ HC.out hok hB hlc hpc hown).mono ?_
  rintro e w1 ⟨n, ω1, rfl, hn, s1, ok1, Nc, Nn⟩
  have h1 := h.kept s1 hac
  obtain ⟨M, hM⟩ : ∃ M, M = ge lc 2 := ⟨_, rfl⟩
  rw [← hM]
  have HM := hid_mk hM
  obtain ⟨c0', c1', f0', f1'⟩ := h1.cells
  have hal := h1.lt
  have hs1 := s1.size
  have hnw : n < w1.heap.size := by obtain ⟨_, _, h9⟩ := Nn; exact h9.lt
  have hgl : ∀ b, own (.slice Al l.length cl) b → b < w1.heap.size ∧ b ≠ a := fun b hb => ⟨(h1.lst.lt b hb).2, fun e => h1.lst.ne h1.blk (by decide) (e ▸ hb)⟩
  have bb : Below w1.heap.size w1 ((w1.alloc (.cells #[.string M.key, .int .i64 M.id] 36)).alloc (.cells #[.string M.key, .int .i64 M.id] 36)).drew := pw_below (n := 1) (bthen (balloc _) (balloc _))
  have HROW := hid_mk (h1.lst.below bb)
  have HVB : Hid (((w1.alloc (.cells #[.string M.key, .int .i64 M.id] 36)).alloc (.cells #[.string M.key, .int .i64 M.id] 36)).drew.heap[w1.heap.size + 1]? = some (.cells #[.string M.key, .int .i64 M.id] 36 (0, 0))) :=
    hid_mk (by have h9 := heap_alloc_new (w1.alloc (.cells #[.string M.key, .int .i64 M.id] 36)) (.cells #[.string M.key, .int .i64 M.id] 36); rw [World.size_alloc] at h9; exact h9)
  have hnb : (Value.slice Al l.length cl).ownBlock ≠ some (w1.heap.size + 1) := fun e => by have := (hgl _ e).1; omega
  have m0 := World.new_ne w1 ⟨a, 0, none⟩ c0'
  have m1 : ¬ w1.heap.size + 1 = a := by omega
  clear hM c1 d0 kk
  go_wp2_with fail
  go_region_with
    ((go_at_call 32; refine (insertE_any 0 _ l.length k (w1.heap.size + 1) _ rfl (ecells l) #[.string M.key, .int .i64 M.id] _ HROW.out (ecells_one _) hkl (by omega) (Nat.zero_le _) HVB.out rfl (by intro x hx; simp at hx; rcases hx with rfl | rfl <;> rfl) hnb _ (ins_ecells l k M)).mono ?_; rintro e w3 ⟨v3, rfl, hv3, m3⟩; obtain ⟨A3, cap3, rfl, _, _, _⟩ := hv3.shape; have C3 := m3.cell (keep_cell bb c0') (fun h9 => (hgl _ h9).2 rfl); have F3 := (m3.frozen (a := ⟨a, 0, none⟩) (by show a < ((w1.alloc _).alloc _).heap.size; simp; omega) (fun h9 => (hgl _ h9).2 rfl)).trans (((bcell bb).2 a 0 hal).trans f0')))
  all_goals
    have row3 : Rw 0 w3 36 2 (.slice A3 (l.length + 1) cap3) (l.take k ++ M :: l.drop k).length (ecells (l.take k ++ M :: l.drop k)) := by rw [ins_length _ _ _ hkl]; exact hv3
    obtain ⟨ω3, h3, s3, ok3, _⟩ := (h1.below ok1 bb).setList (ok1.below bb) (by have := bb.size; omega) m3 row3
    obtain ⟨W4, hW4⟩ : ∃ W4, W4 = w3.setCell ⟨a, 0, none⟩ (.slice A3 (l.length + 1) cap3) := ⟨_, rfl⟩
    rw [← hW4] at h3 s3 ok3 ⊢
    have hs2 := bb.size
    have hs4 := s3.size
    have c4 := h3.cells.2.1
    have hgk2 : ∀ b, own (.slice (some ⟨gk, 0, none⟩) ps.length kcap) b → b < W4.heap.size := fun b hb => (h3.kds.lt b hb).2
    have hnb2 : (Value.slice (some ⟨gk, 0, none⟩) ps.length kcap).ownBlock ≠ some W4.heap.size := fun e => by have := hgk2 _ e; omega
    have hpk1 : (k : Int) + 1 ≤ (ps.length : Int) := by omega
    clear hW4 F3 C3 m3 hv3 row3 hnb HVB HROW m0 m1 hgl c0' c1' f0' f1'
    go_wp2_with fail
    refine (insertN_any 0 _ ps.length (k + 1) W4.heap.size _ (by omega) (pcells ps) #[.pointer (some ⟨n, 0, none⟩)] _ (h3.kds.below (balloc _)) (pcells_one _) (by omega) (by omega) (Nat.zero_le _) (heap_alloc_new _ _) rfl (by intro x hx; simp at hx; subst hx; rfl) hnb2 _ (ins_pcells ps (k + 1) n)).mono ?_
    rintro e w5 ⟨v5, rfl, hv5, m5⟩
    obtain ⟨A5, cap5, rfl, _, _, _⟩ := hv5.shape
    have row5 : Rw 0 w5 56 1 (.slice A5 (ps.length + 1) cap5) (ps.take (k + 1) ++ n :: ps.drop (k + 1)).length (pcells (ps.take (k + 1) ++ n :: ps.drop (k + 1))) := by rw [ins_length _ _ _ (by omega)]; exact hv5
    obtain ⟨ω5, h5, s5, ok5, _, q1, qf⟩ := (h3.below ok3 (balloc _)).setKids (ok3.below (balloc _)) (by simp; omega) m5 row5
    have S5 := hid_mk ((((((s1.wider (S' := fun x => x = a ∨ x = c) (fun _ h => .inr h)).trans (Stp.of_below (S := fun _ => False) ok1 bb) (fun _ h => h.elim) hown).trans s3 (fun _ h => .inl (.inl h)) hown).trans (Stp.of_below (S := fun _ => False) ok3 (balloc (.cells #[.pointer (some ⟨n, 0, none⟩)] 56))) (fun _ h => h.elim) hown).trans s5 (fun _ h => .inl (.inl h)) hown))
    have N5 := hid_mk (((((Nc.below ok1 bb).kept s3 (Ne.symm hac)).below ok3 (balloc (.cells #[.pointer (some ⟨n, 0, none⟩)] 56))).kept s5 (Ne.symm hac)))
    have hna : n ≠ a := by have := h.lt; omega
    have N6 := hid_mk (((((Nn.below ok1 bb).kept s3 hna).below ok3 (balloc (.cells #[.pointer (some ⟨n, 0, none⟩)] 56))).kept s5 hna))
    have H5 := hid_mk h5
    have OK5 := hid_mk ok5
    clear s1 s3 s5 h5 ok5 row5 m5 hv5 Nc Nn h h1 h3 c4
    go_wp2_with fail
    first | go_end0 | (refine bodyPost_ret (results_none rfl _ _ _) rfl ?_)
    exact ⟨rfl, n, ω5, hn, S5.out, OK5.out, ⟨_, _, by rw [← HM.out]; exact H5.out⟩, N5.out, N6.out⟩

end Go.Proofs.Ytaoamkkgiiiejaa
