/- A node that is too great is parted. -/
import Derived.Test.YtaoamkkgiiiejaaTreeM
namespace Go.Proofs.Ytaoamkkgiiiejaa
open Go.RowKit
set_option linter.unusedVariables false
attribute [local go_sem ↓] Go.wp_at_zero Go.wp_at_succ

theorem Nd.lshape {w : World} {ω : Ow} {a : Nat} {v u : Value} {l : List E} {ps : List Nat} (h : Nd w ω a v u l ps) (h0 : 0 < l.length) : ∃ g cap, v = .slice (some ⟨g, 0, none⟩) l.length cap ∧ l.length ≤ cap ∧ cap ≤ 9223372036854775807 ∧ g < w.heap.size ∧
    ∀ i, i < l.length → w.cell? ⟨g, i * 2, none⟩ = some (.string (ge l i).key) ∧ w.cell? ⟨g, i * 2 + 1, none⟩ = some (.int .i64 (ge l i).id) := by
  obtain ⟨A, cap, rfl, h1, h2, h3⟩ := rw_ents h.lst
  obtain ⟨g, rfl, hg, hc⟩ := h3 h0
  exact ⟨g, cap, rfl, h1, h2, hg, hc⟩
theorem Nd.kshape {w : World} {ω : Ow} {a : Nat} {v u : Value} {l : List E} {ps : List Nat} (h : Nd w ω a v u l ps) (h0 : 0 < ps.length) : ∃ g cap, u = .slice (some ⟨g, 0, none⟩) ps.length cap ∧ ps.length ≤ cap ∧ cap ≤ 9223372036854775807 ∧ g < w.heap.size ∧
    ∀ i (hi : i < ps.length), w.cell? ⟨g, i, none⟩ = some (.pointer (some ⟨ps[i], 0, none⟩)) := by
  obtain ⟨A, cap, rfl, h1, h2, h3, h4⟩ := h.kds.shape
  rcases A with _ | A
  · have := (h3 rfl).1; omega
  · obtain ⟨g, rfl, _, hg, _, hc⟩ := h4 A rfl
    exact ⟨g, cap, rfl, h1, h2, hg, fun i hi => hc i _ (pcells_get ps i hi)⟩
theorem Nd.kany {w : World} {ω : Ow} {a : Nat} {v u : Value} {l : List E} {ps : List Nat} (h : Nd w ω a v u l ps) : ∃ A cap, u = .slice A ps.length cap ∧ ps.length ≤ cap ∧ cap ≤ 9223372036854775807 := by
  obtain ⟨A, cap, rfl, h1, h2, _⟩ := h.kds.shape
  exact ⟨A, cap, rfl, h1, h2⟩
theorem Nd.lany {w : World} {ω : Ow} {a : Nat} {v u : Value} {l : List E} {ps : List Nat} (h : Nd w ω a v u l ps) : ∃ A cap, v = .slice A l.length cap ∧ l.length ≤ cap ∧ cap ≤ 9223372036854775807 := by
  obtain ⟨A, cap, rfl, h1, h2, _⟩ := h.lst.shape
  exact ⟨A, cap, rfl, h1, h2⟩
theorem Okw.own {B : Nat} {w : World} {ω : Ow} (h : Okw B w ω) : ∀ b a, ω b = some a → a < w.heap.size := fun b a hb => (h b a hb).2.2

theorem Nd.put {w : World} {ω : Ow} {a : Nat} {v u : Value} {l : List E} {ps : List Nat} (h : Nd w ω a v u l ps) {p : Addr} (hp : ω p.block = none) (x : Value) : Nd (w.setCell p x) ω a v u l ps := by
  have key : ∀ b, ω b = some a → (w.setCell p x).heap[b]? = w.heap[b]? := fun b hb => heap_setCell_other w p b x fun e => by rw [e, hp] at hb; cases hb
  exact ⟨(key a h.own0).trans h.blk, h.own0, h.lst.stays fun k hk => key k (h.ownv k hk), h.ownv, h.kds.stays fun k hk => key k (h.ownu k hk), h.ownu⟩
theorem Node.put {w : World} {ω : Ow} {a : Nat} {l : List E} {ps : List Nat} (h : Node w ω a l ps) {p : Addr} (hp : ω p.block = none) (x : Value) : Node (w.setCell p x) ω a l ps := by
  obtain ⟨v, u, h⟩ := h
  exact ⟨v, u, h.put hp x⟩
theorem Stp.put {S : Nat → Prop} {w w1 : World} {ω ω1 : Ow} (h : Stp S w ω w1 ω1) {p : Addr} (hp : w.heap.size ≤ p.block) (x : Value) : Stp S w ω (w1.setCell p x) ω1 :=
  ⟨h.os, h.tape, h.output, by simpa using h.size, fun b hb hc => (heap_setCell_other w1 p b x (by omega)).trans (h.block b hb hc), h.same, h.new⟩
theorem Okw.put {B : Nat} {w : World} {ω : Ow} (h : Okw B w ω) (p : Addr) (x : Value) : Okw B (w.setCell p x) ω := fun b a ha => by simpa using h b a ha
theorem Stp.drew {S : Nat → Prop} {w w1 : World} {ω ω1 : Ow} (h : Stp S w ω w1 ω1) {n : Nat} : Stp S w ω (w1.drewN n) ω1 := ⟨h.os, h.tape, h.output, h.size, h.block, h.same, h.new⟩
theorem Okw.none {B : Nat} {w : World} {ω : Ow} (h : Okw B w ω) {b : Nat} (hb : w.heap.size ≤ b) : ω b = .none := by
  rcases ho : ω b with _ | a
  · rfl
  · have := (h b a ho).2; omega

set_option maxHeartbeats 2000000 in
set_option maxRecDepth 100000 in
theorem split_any (B a : Nat) (ω : Ow) (l : List E) (ps : List Nat) (w : World) (h : Node w ω a l ps) (hok : Okw B w ω) (hB : B ≤ w.heap.size) (hl : l.length = 5) (hp : ps.length = 0 ∨ ps.length = 6) (hown : ∀ b c, ω b = some c → c < w.heap.size) :
    Calls Try.prog 33 #[.pointer (some ⟨a, 0, none⟩)] w fun e w' => ∃ n ω', e = .returned (.tuple #[.agg #[.string (ge l 2).key, .int .i64 (ge l 2).id], .pointer (some ⟨n, 0, none⟩)]) ∧ w.heap.size ≤ n ∧
      Stp (· = a) w ω w' ω' ∧ Okw B w' ω' ∧ Node w' ω' a (l.take 2) (ps.take 3) ∧ Node w' ω' n (l.drop 3) (ps.drop 3) := by
  obtain ⟨v, u, h⟩ := h
  obtain ⟨g, cap, rfl, hlc, hcm, hg, hc⟩ := h.lshape (by omega)
  obtain ⟨U, ucap, hu, _, _⟩ := h.kany
  obtain ⟨c0, c1, f0, f1⟩ := h.cells
  have hal := h.lt
  obtain ⟨d0, d1⟩ := hc 2 (by omega)
  simp only [show 2 * 2 = 4 from rfl] at d0 d1
  have hcl : ¬ cap = 3 := by omega
  have hc3 : (3 : Int) ≤ (cap : Int) := by omega
  have HL := hid_mk hl
  have hND := hid_mk h
  have HC := hid_mk hc
  rw [hl] at hlc c0
  subst hu
  have n0 := World.new_ne w ⟨a, 0, none⟩ c0
  have n1 := World.new_ne w ⟨g, 4, none⟩ d0
  clear hl hc h
  go_enter Try.func33, Try.ntmps33
  go_wp2_with fail
  refine (cloneE_any ⟨g, 6, none⟩ 2 _ (ecells (l.drop 3)) _ (by omega) (by omega) (by rw [ecells_length, List.length_drop, HL.out]) (fun j x hj => keep_cell (bthen (balloc _) (balloc _)) ?_) (ecells_one _)).mono ?_
  · obtain ⟨A, cap', e, _, _, _, h4⟩ := hND.out.lst.shape
    injection e with e1 e2 e3
    obtain ⟨g', e4, _, _, _, h5⟩ := h4 _ e1.symm
    injection e4 with e4
    subst e4
    rw [Addr.add_lit]
    refine h5 _ _ ?_
    rw [← ecells_drop, List.getElem?_drop] at hj
    exact hj
  rintro e w3 ⟨v3, rfl, hv3, b3⟩
  obtain ⟨A3, cap3, rfl, _, _, _⟩ := hv3.shape
  have hB3 : Below w.heap.size w w3 := bthen (bthen (balloc _) (balloc _)) b3
  have hv3' : Rw ((w.alloc (.cells #[.string ⟨#[]⟩, .int .i64 0] 36)).alloc (.cells #[.string (ge l 2).key, .int .i64 (ge l 2).id] 36)).heap.size w3 36 2 (.slice A3 2 cap3) (l.drop 3).length (ecells (l.drop 3)) := by
    rw [List.length_drop, HL.out]
    exact hv3
  have b2 : Below w.heap.size w ((w.alloc (.cells #[.string ⟨#[]⟩, .int .i64 0] 36)).alloc (.cells #[.string (ge l 2).key, .int .i64 (ge l 2).id] 36)) := bthen (balloc _) (balloc _)
  obtain ⟨ω3, hn3, s3', hok3⟩ := Nd.fresh (S := fun _ => False) (hok.below b2) (by have := b2.size; omega) b3 hv3'
  have o0 : ω3 w.heap.size = none := (s3'.same _ (by simp; omega)).trans (hok.none (Nat.le_refl _))
  have s3 := (Stp.of_below (S := fun _ => False) hok b2).trans s3' (fun _ h => .inl h) hown
  have ha3 := hND.out.kept s3 (fun h => h)
  have c0' := keep_cell hB3 c0
  have c1' := keep_cell hB3 c1
  have f0' := ((bcell hB3).2 a 0 hal).trans f0
  have f1' := ((bcell hB3).2 a 1 hal).trans f1
  have m0 := World.new_ne w3 ⟨a, 0, none⟩ c0'
  have hz3 : w.heap.size + 1 < w3.heap.size := by have := b3.size; simp at this; omega
  have e0 : w3.cell? ⟨w.heap.size + 1, 0, none⟩ = some (.string (ge l 2).key) := keep_cell b3 (by go_simp)
  have e1 : w3.cell? ⟨w.heap.size + 1, 1, none⟩ = some (.int .i64 (ge l 2).id) := keep_cell b3 (by go_simp)
  have r0 : w3.cell? ⟨w.heap.size, 0, none⟩ = some (.string ⟨#[]⟩) := keep_cell b3 (by go_simp)
  have r1 : w3.cell? ⟨w.heap.size, 1, none⟩ = some (.int .i64 0) := keep_cell b3 (by go_simp)
  have x0 : w3.frozen? ⟨w.heap.size, 0, none⟩ = false := ((bcell b3).2 _ 0 (by simp; omega)).trans (by go_simp)
  have x1 : w3.frozen? ⟨w.heap.size, 1, none⟩ = false := ((bcell b3).2 _ 1 (by simp; omega)).trans (by go_simp)
  have y0 : ¬ w3.heap.size = w.heap.size + 1 := by omega
  have y1 : ¬ w3.heap.size = w.heap.size := by omega
  have y2 : ¬ a = w.heap.size + 1 := by omega
  have y3 : ¬ a = w.heap.size := by omega
  have row2 : Rw 0 (w3.alloc (.cells #[.slice A3 2 cap3, .slice none 0 0] 61)) 36 2 (.slice (some ⟨g, 0, none⟩) 2 2) (l.take 2).length (ecells (l.take 2)) := by
    rw [← ecells_take, List.length_take, HL.out]
    exact ha3.lst.prefix_ 2 2 (by rw [HL.out]; omega) (by omega) (by omega)
  have hB4 : B ≤ (w3.alloc (.cells #[.slice A3 2 cap3, .slice none 0 0] 61)).heap.size := by have := s3.size; omega
  obtain ⟨ω4, ha4, s4, hok4, _⟩ := ha3.setList hok3 hB4 (v' := .slice (some ⟨g, 0, none⟩) 2 2) ⟨rfl, rfl, rfl, Nat.le_refl _, fun _ _ _ => rfl, fun k hk => .inl hk⟩ row2
  have hn4 := hn3.kept s4 (fun e => by have : w3.heap.size = a := e; omega)
  have p0 : ω4 w.heap.size = none := (s4.same _ (by simp; omega)).trans o0
  have s34 := (s3.wider (S' := (· = a)) (fun _ h => h.elim)).trans s4 (fun _ h => .inl h) hown
  clear hB3 b3 hv3 hv3' c0 c1 f0 f1 d0 d1 n0 n1 row2
  have HS := hid_mk s34
  have HN := hid_mk hn4
  have HA := hid_mk ha4
  clear s3 s3' s4 s34 hn3 hn4 ha3 o0
  have p0 := hid_mk p0
  go_wp2_with fail
  refine (leaf_any a ps.length ucap U _ (ha4.cells.2.1)).mono ?_
  rintro e w5 ⟨rfl, rfl⟩
  obtain ⟨W4, hW4⟩ : ∃ W4, W4 = (w3.alloc (.cells #[.slice A3 2 cap3, .slice none 0 0] 61)).setCell ⟨a, 0, none⟩ (.slice (some ⟨g, 0, none⟩) 2 2) := ⟨_, rfl⟩
  have hblk : ∀ b, b < w3.heap.size → b ≠ a → W4.heap[b]? = w3.heap[b]? := fun b hb hba => by
    rw [hW4, heap_setCell_other _ _ b _ hba, heap_alloc_old w3 _ hb]
  have hz4 : w3.heap.size < W4.heap.size := by rw [hW4]; simp
  rw [← hW4] at HS HA HN ha4 hok4 ⊢
  have E0 := (World.cell?_of_block (a := ⟨w.heap.size + 1, 0, none⟩) (hblk (w.heap.size + 1) (by omega) (Ne.symm y2))).trans e0
  have E1 := (World.cell?_of_block (a := ⟨w.heap.size + 1, 1, none⟩) (hblk (w.heap.size + 1) (by omega) (Ne.symm y2))).trans e1
  have R0 := (World.cell?_of_block (a := ⟨w.heap.size, 0, none⟩) (hblk w.heap.size (by omega) (Ne.symm y3))).trans r0
  have R1 := (World.cell?_of_block (a := ⟨w.heap.size, 1, none⟩) (hblk w.heap.size (by omega) (Ne.symm y3))).trans r1
  have X0 := (World.frozen?_of_block (a := ⟨w.heap.size, 0, none⟩) (hblk w.heap.size (by omega) (Ne.symm y3))).trans x0
  have X1 := (World.frozen?_of_block (a := ⟨w.heap.size, 1, none⟩) (hblk w.heap.size (by omega) (Ne.symm y3))).trans x1
  clear hW4 hblk e0 e1 r0 r1 x0 x1 c0' c1' f0' f1'
  rcases hp with hp | hp
  · have hps : ps = [] := List.eq_nil_of_length_eq_zero hp
    subst hps
    clear hp ha4
    go_wp2_with fail
    (try simp only [Exit.inBlock, Exit.then])
    refine bodyPost_ret (v := .tuple #[.agg #[.string (ge l 2).key, .int .i64 (ge l 2).id], .pointer (some ⟨w3.heap.size, 0, none⟩)]) ?_ rfl ?_
    · simp [results, Try.results33, go_sem, *]
    exact ⟨w3.heap.size, ω4, rfl, by omega, (HS.out.put (Nat.le_refl _) _).put (Nat.le_refl _) _, (hok4.put _ _).put _ _, ⟨_, _, (HA.out.put p0.out _).put p0.out _⟩, ⟨_, _, (HN.out.put p0.out _).put p0.out _⟩⟩
  · obtain ⟨gk, kcap, hu, hkc, hkm, hgk, hkcell⟩ := ha4.kshape (by omega)
    injection hu with hu1 hu2 hu3
    subst hu1 hu3
    rw [hp] at hkc
    have k1 := ha4.cells.2.1
    have kf1 := ha4.cells.2.2.2
    rw [hp] at k1
    have hk3 : ¬ ucap = 3 := by omega
    have hk3' : (3 : Int) ≤ (ucap : Int) := by omega
    have hK4 : B ≤ W4.heap.size := by omega
    have HP := hid_mk hp
    have HKC := hid_mk hkcell
    have HA4 := hid_mk ha4
    rw [hp]
    clear hkcell ha4 hp
    go_wp2_with fail
    refine (cloneN_any ⟨gk, 3, none⟩ 3 _ (pcells (ps.drop 3)) _ (by omega) (by omega) (by rw [pcells_length, List.length_drop, HP.out]) (fun j x hj => ?_) (pcells_one _)).mono ?_
    · rw [Addr.add_lit]
      have hj1 : j < (ps.drop 3).length := by have := (List.getElem?_eq_some_iff.1 hj).1; rw [pcells_length] at this; omega
      rw [List.length_drop] at hj1
      rw [HKC.out (3 + j) (by omega)]
      rw [pcells_get (ps.drop 3) j (by rw [List.length_drop]; omega)] at hj
      rw [← hj, List.getElem_drop]
    rintro e w5 ⟨v5, rfl, hv5, b5⟩
    obtain ⟨A5, cap5, rfl, _, _, _⟩ := hv5.shape
    have row5 : Rw 0 w5 56 1 (.slice A5 3 cap5) (ps.drop 3).length (pcells (ps.drop 3)) := by
      rw [List.length_drop, HP.out]
      exact hv5.base (Nat.zero_le _)
    obtain ⟨ω5, hn5, s5, hok5, q0, q1, qf⟩ := HN.out.setKids hok4 hK4 (u' := .slice A5 3 cap5) ⟨b5.os, b5.tape, b5.output, b5.size, fun k hk _ => b5.block k hk, fun k hk => .inr (hv5.lt k hk).1⟩ row5
    have ha5 := HA4.out.kept s5 (fun e => m0 e.symm)
    have hz5 := b5.size
    obtain ⟨ω6, ha6, s6, hok6, _⟩ := ha5.setKids hok5 (by simp; omega) (u' := .slice (some ⟨gk, 0, none⟩) 3 3) ⟨rfl, rfl, rfl, Nat.le_refl _, fun _ _ _ => rfl, fun k hk => .inl hk⟩ (ps' := ps.take 3) (by
      rw [← pcells_take, List.length_take, HP.out]
      have h6 := ha5.kds
      exact h6.prefix_ 3 3 (by rw [HP.out]; omega) (by omega) (by omega))
    have hn6 := hn5.kept s6 (fun e => m0 e)
    have o5 : ω5 w.heap.size = none := (s5.same _ (by omega)).trans p0.out
    have o6 : Hid (ω6 w.heap.size = none) := hid_mk ((s6.same _ (by simp; omega)).trans o5)
    have s05 := HS.out.trans s5 (fun x (h : x = w3.heap.size) => .inr (by omega)) hown
    have S06 := hid_mk (s05.trans s6 (fun _ h => .inl h) hown)
    have k2 := keep_cell b5 k1
    have kf2 := ((bcell b5).2 a 1 HA4.out.lt).trans kf1
    have E0' := keep_cell b5 E0
    have E1' := keep_cell b5 E1
    have R0' := keep_cell b5 R0
    have R1' := keep_cell b5 R1
    have X0' := ((bcell b5).2 w.heap.size 0 (by omega)).trans X0
    have X1' := ((bcell b5).2 w.heap.size 1 (by omega)).trans X1
    have z0 : ¬ a = w3.heap.size := fun e => m0 e.symm
    have z1 : ¬ w.heap.size + 1 = w3.heap.size := by omega
    have z2 : ¬ w.heap.size = w3.heap.size := by omega
    have z3 : ¬ w.heap.size + 1 = a := by omega
    have z4 : ¬ w.heap.size = a := by omega
    have HA6 := hid_mk ha6
    have HN6 := hid_mk hn6
    have HOK6 := hid_mk hok6
    clear k1 kf1 E0 E1 R0 R1 X0 X1 s5 s6 s05 ha5 ha6 hn5 hn6 hok5 hok6 hok4 hok3 o5 p0 HA4 HN HA HS b5 hv5 row5 HC hND HKC q0
    go_wp2_with fail
    (try simp only [Exit.inBlock, Exit.then])
    refine bodyPost_ret (v := .tuple #[.agg #[.string (ge l 2).key, .int .i64 (ge l 2).id], .pointer (some ⟨w3.heap.size, 0, none⟩)]) ?_ rfl ?_
    · simp [results, Try.results33, go_sem, *]
    exact ⟨w3.heap.size, ω6, rfl, by omega, (S06.out.put (Nat.le_refl _) _).put (Nat.le_refl _) _, (HOK6.out.put _ _).put _ _, ⟨_, _, (HA6.out.put o6.out _).put o6.out _⟩, ⟨_, _, (HN6.out.put o6.out _).put o6.out _⟩⟩

end Go.Proofs.Ytaoamkkgiiiejaa
