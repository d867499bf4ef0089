/- An entry is put below a node. -/
import Derived.Test.YtaoamkkgiiiejaaTreeP
namespace Go.Proofs.Ytaoamkkgiiiejaa
open Go.RowKit
set_option linter.unusedVariables false
attribute [local go_sem ↓] Go.wp_at_zero Go.wp_at_succ

/-- A tree with one more entry; its top has at most one more. -/
structure Grew (h : Nat) (t t' : T) (e : E) : Prop where
  addr : t'.a = t.a
  good : Good h t'
  ents : ents h t' = add e (ents h t)
  lo : t.l.length ≤ t'.l.length
  hi : t'.l.length ≤ t.l.length + 1
  keep : e ∈ Go.Proofs.Ytaoamkkgiiiejaa.ents h t → t'.l.length = t.l.length

theorem Stp.cell {S : Nat → Prop} {w w' : World} {ω ω' : Ow} (s : Stp S w ω w' ω') {p : Addr} (hb : p.block < w.heap.size) (h : ∀ a, ω p.block = some a → ¬ S a) : w'.cell? p = w.cell? p := World.cell?_of_block (s.block p.block hb h)
theorem Stp.frozen {S : Nat → Prop} {w w' : World} {ω ω' : Ow} (s : Stp S w ω w' ω') {p : Addr} (hb : p.block < w.heap.size) (h : ∀ a, ω p.block = some a → ¬ S a) : w'.frozen? p = w.frozen? p := World.frozen?_of_block (s.block p.block hb h)

/-- What adding to a kid, and healing it, comes to. -/
def AddPost (B h : Nat) (t : T) (e : E) (w : World) (ω : Ow) (r : Ending) (w' : World) : Prop :=
  ∃ ω' t', r = .returned (.bool (decide (e ∉ ents h t))) ∧ Grew h t t' e ∧ Stp (· ∈ addrs h t) w ω w' ω' ∧ Okw B w' ω' ∧ Tr h w' ω' t' ∧ ∀ x ∈ addrs h t', x ∈ addrs h t ∨ w.heap.size ≤ x

theorem leaf_ins {l : List E} {e : E} (hs : Srt l) (he : e ∉ l) : l.take (below e l).length ++ e :: l.drop (below e l).length = add e l := by
  have h1 := srt_not hs he
  unfold add ins
  rw [if_neg he]
  conv => lhs; rw [h1]
  rw [below_append, below_all (l := below e l) fun x hx => (mem_below.1 hx).2, below_none (l := above e l) fun x hx => .inl (mem_above.1 hx).2, List.append_nil, List.take_left, List.drop_left]

set_option maxHeartbeats 2000000 in
set_option maxRecDepth 100000 in
theorem add_leaf (B : Nat) (e : E) (a : Nat) (l : List E) (ω : Ow) (w : World) (hl4 : l.length ≤ 4) (hs : Srt l) (hn : Node w ω a l []) (hok : Okw B w ω) (hB : B ≤ w.heap.size) :
    Calls Try.prog 24 #[.pointer (some ⟨a, 0, none⟩), .agg #[.string e.key, .int .i64 e.id]] w (fun r w' => ∃ ω', r = .returned (.bool (decide (e ∉ l))) ∧ Stp (· = a) w ω w' ω' ∧ Okw B w' ω' ∧ Node w' ω' a (add e l) []) := by
  obtain ⟨v, u, hn⟩ := hn
  obtain ⟨c0, c1, f0, f1⟩ := hn.cells
  obtain ⟨Al, cl, rfl, _, _⟩ := hn.lany
  obtain ⟨Ak, ck, rfl, _, _⟩ := hn.kany
  have hal := hn.lt
  have HS := hid_mk hs
  clear hs
  go_enter Try.func24, Try.ntmps24
  go_wp2_with fail
  have b0 : Below w.heap.size w (w.alloc (.cells #[.string e.key, .int .i64 e.id] 36)) := balloc _
  refine (find_any l e 0 a _ _ (keep_cell b0 c0) (hn.lst.below b0) HS.out (by omega)).mono ?_
  rintro r w1 ⟨rfl, b1⟩
  have b01 := bthen b0 b1
  have e0 : w1.cell? ⟨w.heap.size, 0, none⟩ = some (.string e.key) := keep_cell b1 (by go_simp)
  have e1 : w1.cell? ⟨w.heap.size, 1, none⟩ = some (.int .i64 e.id) := keep_cell b1 (by go_simp)
  have hz1 : w.heap.size < w1.heap.size := by have := b1.size; simp at this; omega
  have c1' := keep_cell b01 c1
  have c0' := keep_cell b01 c0
  have f0' := ((bcell b01).2 a 0 hal).trans f0
  have hn1 := hn.below hok b01
  by_cases he : e ∈ l
  · have HD : Hid (decide (e ∉ l) = false) := hid_mk (by simp [he])
    have HA : Hid (add e l = l) := hid_mk (by unfold add; rw [if_pos he])
    rw [decide_eq_true he]
    clear c0 c1 f0 f1
    go_wp2_with fail
    go_ret
    exact ⟨ω, ret_bool HD.out.symm, Stp.of_below hok b01, hok.below b01, ⟨_, _, by rw [HA.out]; exact hn1⟩⟩
  · have HD : Hid (decide (e ∉ l) = true) := hid_mk (by simp [he])
    rw [decide_eq_false he]
    clear c0 c1 f0 f1
    go_wp2_with fail
    refine (leaf_any a 0 ck Ak _ c1').mono ?_
    rintro r w1' ⟨rfl, rfl⟩
    obtain ⟨K, hK⟩ : ∃ K, K = (below e l).length := ⟨_, rfl⟩
    have hKl : K ≤ l.length := by rw [hK]; exact List.length_filter_le _ _
    have HK : Hid (l.take K ++ e :: l.drop K = add e l) := hid_mk (by rw [hK]; exact leaf_ins HS.out he)
    rw [← hK]
    clear hK
    have hgl : ∀ b, own (.slice Al l.length cl) b → b < w1.heap.size ∧ b ≠ a := fun b hb => ⟨(hn1.lst.lt b hb).2, fun e9 => hn1.lst.ne hn1.blk (by decide) (e9 ▸ hb)⟩
    have bb : Below w1.heap.size w1 (w1.alloc (.cells #[.string e.key, .int .i64 e.id] 36)).drew := pw_below (n := 1) (balloc _)
    have hnb : (Value.slice Al l.length cl).ownBlock ≠ some w1.heap.size := fun e9 => by have := (hgl _ e9).1; omega
    have HROW := hid_mk (hn1.lst.below bb)
    have HVB : Hid ((w1.alloc (.cells #[.string e.key, .int .i64 e.id] 36)).drew.heap[w1.heap.size]? = some (.cells #[.string e.key, .int .i64 e.id] 36 (0, 0))) := hid_mk (heap_alloc_new w1 _)
    have m0 := World.new_ne w1 ⟨a, 0, none⟩ c0'
    have m1 : w1.heap.size ≠ w.heap.size := by omega
    have hal1 : a < w1.heap.size := by omega
    have H1 := hid_mk hn1
    clear hn hn1
    go_wp2_with fail
    go_region_with
      ((go_at_call 32; refine (insertE_any 0 _ l.length K w1.heap.size _ rfl (ecells l) #[.string e.key, .int .i64 e.id] _ HROW.out (ecells_one _) hKl (by omega) (Nat.zero_le _) HVB.out rfl (by intro x hx; simp at hx; rcases hx with rfl | rfl <;> rfl) hnb _ (ins_ecells l K e)).mono ?_; rintro r w3 ⟨v3, rfl, hv3, m3⟩; obtain ⟨A3, cap3, rfl, _, _, _⟩ := hv3.shape; have C3 := m3.cell (keep_cell bb c0') (fun h9 => (hgl _ h9).2 rfl); have F3 := (m3.frozen (a := ⟨a, 0, none⟩) (by show a < (w1.alloc _).heap.size; simp; omega) (fun h9 => (hgl _ h9).2 rfl)).trans (((bcell bb).2 a 0 (by omega)).trans f0')))
    all_goals
      have row3 : Rw 0 w3 36 2 (.slice A3 (l.length + 1) cap3) (l.take K ++ e :: l.drop K).length (ecells (l.take K ++ e :: l.drop K)) := by rw [ins_length _ _ _ hKl]; exact hv3
      have ok1 := hok.below b01
      obtain ⟨ω3, h3, s3, ok3, _⟩ := (H1.out.below ok1 bb).setList (ok1.below bb) (by have := bb.size; omega) m3 row3
      have S3 := hid_mk (((Stp.of_below (S := (· = a)) hok b01).trans (Stp.of_below (S := fun _ => False) ok1 bb) (fun _ h => h.elim) hok.own).trans s3 (fun x hx => .inl hx) hok.own)
      rw [HK.out] at h3
      have H3 := hid_mk h3
      have OK3 := hid_mk ok3
      clear s3 h3 ok3 row3 hv3 m3
      go_wp2_with fail
      go_ret
      exact ⟨ω3, ret_bool HD.out.symm, S3.out, OK3.out, ⟨_, _, H3.out⟩⟩

end Go.Proofs.Ytaoamkkgiiiejaa
