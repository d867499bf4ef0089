/- Entries of deeds; two rows of the same entries. -/
import Derived.Test.YtaoamkkgiiiejaaTreeS
import Derived.Laws.IdiomStrings
namespace Go.Proofs.Ytaoamkkgiiiejaa
open Go.RowKit
set_option linter.unusedVariables false
attribute [local go_sem ↓] Go.wp_at_zero Go.wp_at_succ

theorem above_get {L : List E} (hs : Srt L) (k : Nat) (hk : k < L.length) : above (ge L k) L = L.drop (k + 1) := by
  have h1 : L = L.take k ++ (ge L k :: L.drop (k + 1)) := by rw [ge_get L k hk, ← List.drop_eq_getElem_cons hk, List.take_append_drop]
  have h2 := hs
  rw [h1] at h2
  obtain ⟨p1, p2, p3⟩ := List.pairwise_append.1 h2
  have p4 : ∀ x ∈ L.drop (k + 1), lt (ge L k) x := fun x hx => List.rel_of_pairwise_cons p2 hx
  have p5 : ∀ x ∈ L.take k, lt x (ge L k) ∨ x = ge L k := fun x hx => .inl (p3 x hx _ (List.mem_cons_self ..))
  have h3 : above (ge L k) (ge L k :: L.drop (k + 1)) = L.drop (k + 1) := by
    have h4 := above_all p4
    unfold above at h4 ⊢
    rw [List.filter_cons_of_neg (by simpa using lt_irrefl (ge L k)), h4]
  calc above (ge L k) L = above (ge L k) (L.take k ++ (ge L k :: L.drop (k + 1))) := by rw [← h1]
    _ = L.drop (k + 1) := by rw [above_append, above_none p5, h3, List.nil_append]
theorem hd_drop (L : List E) (k : Nat) (hk : k < L.length) : hd (L.drop k) = (ge L k, true) := by
  rw [List.drop_eq_getElem_cons hk, ge_get L k hk]; rfl
theorem ge_take (L : List E) (k : Nat) (hk : k < L.length) : L.take (k + 1) = L.take k ++ [ge L k] := by
  rw [List.take_succ_eq_append_getElem hk, ge_get L k hk]

/-- Two rows of the same entries. -/
theorem same_true (l : List E) (B1 B2 : Nat) (v1 v2 : Value) (w : World) (h1 : Rw B1 w 36 2 v1 l.length (ecells l)) (h2 : Rw B2 w 36 2 v2 l.length (ecells l)) :
    Calls Try.prog 18 #[v1, v2] w fun r w' => r = .returned (.bool true) ∧ Below w.heap.size w w' := by
  obtain ⟨A1, cap1, rfl, hc1, hm1, hA1⟩ := rw_ents h1
  obtain ⟨A2, cap2, rfl, hc2, hm2, hA2⟩ := rw_ents h2
  have hne2 : ((l.length : Int) != (l.length : Int)) = false := by simp
  clear h1 h2
  go_enter Try.func18, Try.ntmps18
  go_wp2_with fail
  go_loopw [13] (fun i wr => ∃ k : Nat, i = .int .i64 k ∧ k ≤ l.length ∧ Below w.heap.size w wr) (fun i _ => l.length - (intOf i).toNat)
  case atStart => exact ⟨0, rfl, Nat.zero_le _, Below.refl _ _⟩
  case round =>
    obtain ⟨k, rfl, hk, hb⟩ := hrel
    by_cases hlt : k < l.length
    · obtain ⟨g1, rfl, hg1, hx1⟩ := hA1 (by omega)
      obtain ⟨g2, rfl, hg2, hx2⟩ := hA2 (by omega)
      obtain ⟨x, hx⟩ : ∃ x, x = ge l k := ⟨_, rfl⟩
      have d0 := keep_cell hb (hx1 k hlt).1
      have d1 := keep_cell hb (hx1 k hlt).2
      have d2 := keep_cell hb (hx2 k hlt).1
      have d3 := keep_cell hb (hx2 k hlt).2
      rw [← hx] at d0 d1 d2 d3
      have k0 : (0 : Int) ≤ (k : Int) := by omega
      have k1 : (k : Int) < (l.length : Int) := by omega
      clear hx1 hx2 hA1 hA2 hx
      go_wp2_with fail
      go_quiet (fail)
      go_wp2_with fail
      exact ⟨⟨k + 1, by go_num, by omega, pw_below hb⟩, by simp [intOf]; omega⟩
    · go_wp2_with fail
      go_ret
      exact ⟨rfl, hb⟩

structure A8 where
  kind : Int
  key : Int
  id : Int
def A8.ok (a : A8) : Prop := (0 ≤ a.kind ∧ a.kind ≤ 255) ∧ (0 ≤ a.key ∧ a.key ≤ 255) ∧ (0 ≤ a.id ∧ a.id ≤ 255)
def A8.ent (a : A8) : E := ⟨⟨#[(97 + a.key % 6).toNat.toUInt8]⟩, a.id % 24 - 3⟩
theorem entry_any (a : A8) (w : World) (h : a.ok) :
    Calls Try.prog 14 #[.agg #[.int .u8 a.kind, .int .u8 a.key, .int .u8 a.id]] w fun r w' => r = .returned (.agg #[.string a.ent.key, .int .i64 a.ent.id]) ∧ Below w.heap.size w w' := by
  obtain ⟨⟨k0, k1⟩, ⟨y0, y1⟩, ⟨i0, i1⟩⟩ := h
  have hX0 : 0 ≤ a.key % 6 := Int.emod_nonneg _ (by omega)
  have hX1 : a.key % 6 < 6 := Int.emod_lt_of_pos _ (by omega)
  have hq : ((w.alloc (.cells #[.int .u8 a.kind, .int .u8 a.key, .int .u8 a.id] 33)).alloc (.cells #[.string ⟨#[]⟩, .int .i64 0] 36)).heap.size = w.heap.size + 1 + 1 := by simp
  have hnew := heap_alloc_new ((w.alloc (.cells #[.int .u8 a.kind, .int .u8 a.key, .int .u8 a.id] 33)).alloc (.cells #[.string ⟨#[]⟩, .int .i64 0] 36)) (.cells #[.int .u8 (97 + a.key % 6)] 5)
  rw [hq] at hnew
  have hconv : (convert 63 9 (.slice (some ⟨w.heap.size + 1 + 1, 0, none⟩) 1 1)).run Try.prog (((w.alloc (.cells #[.int .u8 a.kind, .int .u8 a.key, .int .u8 a.id] 33)).alloc (.cells #[.string ⟨#[]⟩, .int .i64 0] 36)).alloc (.cells #[.int .u8 (97 + a.key % 6)] 5)) =
      .ok (.string ⟨#[(97 + a.key % 6).toNat.toUInt8]⟩) (((w.alloc (.cells #[.int .u8 a.kind, .int .u8 a.key, .int .u8 a.id] 33)).alloc (.cells #[.string ⟨#[]⟩, .int .i64 0] 36)).alloc (.cells #[.int .u8 (97 + a.key % 6)] 5)) := by
    have h9 := run_convert_bytes_back (P := Try.prog) (((w.alloc (.cells #[.int .u8 a.kind, .int .u8 a.key, .int .u8 a.id] 33)).alloc (.cells #[.string ⟨#[]⟩, .int .i64 0] 36)).alloc (.cells #[.int .u8 (97 + a.key % 6)] 5)) 63 9 5 ⟨w.heap.size + 1 + 1, 0, none⟩ 1 [(97 + a.key % 6).toNat.toUInt8] Try.underlying63 Try.underlying5 Try.underlying9 (fun j hj => by
      have hj0 : j = 0 := by simpa using hj
      subst hj0
      have h8 : ((97 + a.key % 6).toNat.toUInt8).toNat = (97 + a.key % 6).toNat := by
        simp only [Nat.toUInt8, UInt8.toNat_ofNat']
        omega
      rw [add0, cell_of_row _ _ 0 _ _ _ hnew]
      show some (Value.int .u8 (97 + a.key % 6)) = some (.int .u8 ((((97 + a.key % 6).toNat.toUInt8).toNat : Nat) : Int))
      rw [h8, Int.toNat_of_nonneg (by omega)])
    exact h9
  have hw1 : IntKind.u8.wrap (97 + a.key % 6) = 97 + a.key % 6 := by rw [IntKind.wrap_u8]; omega
  clear hnew hq
  go_enter Try.func14, Try.ntmps14
  go_wp2_with fail
  (try simp only [Exit.inBlock, Exit.then])
  refine bodyPost_ret (v := .agg #[.string ⟨#[(97 + a.key % 6).toNat.toUInt8]⟩, .int .i64 (a.id % 24 - 3)]) ?_ rfl ?_
  · simp [results, Try.results14, go_sem, *]
  · refine ⟨rfl, ?_⟩
    exact bthen (bthen (balloc _) (balloc _)) (balloc _)

end Go.Proofs.Ytaoamkkgiiiejaa
