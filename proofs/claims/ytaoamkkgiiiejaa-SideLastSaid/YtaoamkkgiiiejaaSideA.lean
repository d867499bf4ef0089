/- A table of deeds: made, added to, told. -/
import Derived.Test.YtaoamkkgiiiejaaTreeLe
import Derived.Test.YtaoamkkgiiiejaaOf
import Derived.Test.YtaoamkkgiiiejaaTreeDb
namespace Go.Proofs.Ytaoamkkgiiiejaa
open Go.RowKit
set_option linter.unusedVariables false
attribute [local go_sem ↓] Go.wp_at_zero Go.wp_at_succ

theorem infoD : (Try.prog.info? 55).map (fun i => (i.zero, i.size, i.bytes)) = some (some (.agg #[.bool false, .string ⟨#[]⟩, .int .i64 0]), 3, 32) := by kernel_rfl

/-- A table whose deeds, still to be done, are ds. -/
def SdAt (B : Nat) (w : World) (p : Nat) (v : Value) (ds : List D) : Prop :=
  w.heap[p]? = some (.cells #[v] 53 (0, 0)) ∧ B ≤ p ∧ Of B w 55 3 v ds.length (dcells ds)
def SdF (p : Nat) (v : Value) (k : Nat) : Prop := k = p ∨ own v k
def Sd (B : Nat) (w : World) (p : Nat) (ds : List D) (F : Nat → Prop) : Prop := ∃ v, SdAt B w p v ds ∧ F = SdF p v

theorem Sd.foot {B : Nat} {w : World} {p : Nat} {ds : List D} {F : Nat → Prop} (H : Sd B w p ds F) (k : Nat) (hk : F k) : B ≤ k ∧ k < w.heap.size := by
  obtain ⟨v, ⟨h1, h2, h3⟩, rfl⟩ := H
  rcases hk with rfl | hk
  · exact ⟨h2, lt_of_block h1⟩
  · exact h3.lt k hk
theorem Sd.stays {B : Nat} {w w' : World} {p : Nat} {ds : List D} {F : Nat → Prop} (H : Sd B w p ds F) (hb : ∀ k, F k → w'.heap[k]? = w.heap[k]?) : Sd B w' p ds F := by
  obtain ⟨v, ⟨h1, h2, h3⟩, rfl⟩ := H
  exact ⟨v, ⟨(hb p (.inl rfl)).trans h1, h2, h3.stays fun k hk => hb k (.inr hk)⟩, rfl⟩
theorem Sd.below {B : Nat} {w w' : World} {p : Nat} {ds : List D} {F : Nat → Prop} (H : Sd B w p ds F) (hb : Below w.heap.size w w') : Sd B w' p ds F :=
  H.stays fun k hk => hb.block k (H.foot k hk).2
theorem Sd.other {B : Nat} {w w' : World} {p : Nat} {ds : List D} {F G G' : Nat → Prop} (H : Sd B w p ds F) (hm : Mv G G' w w') (ha : ∀ k, F k → ¬ G k) : Sd B w' p ds F :=
  H.stays fun k hk => hm.block k (H.foot k hk).2 (ha k hk)
theorem Sd.moved {B : Nat} {w w' : World} {p : Nat} {ds : List D} {F F' : Nat → Prop} (H : Sd B w p ds F) (hm : Mv F F' w w') (hB : B ≤ w.heap.size) : Below B w w' := hm.below (fun k hk => (H.foot k hk).1) hB

theorem snew_any (w : World) : Calls Try.prog 20 #[] w fun r w' => ∃ p F, r = .returned (.pointer (some ⟨p, 0, none⟩)) ∧ Sd w.heap.size w' p [] F ∧ Below w.heap.size w w' := by
  go_enter Try.func20, Try.ntmps20
  go_wp2_with fail
  go_ret
  exact ⟨w.heap.size, _, rfl, ⟨_, ⟨heap_alloc_new w _, Nat.le_refl _, Of.nil _ _ _ _⟩, rfl⟩, balloc _⟩

theorem slen_any (B p : Nat) (ds : List D) (F : Nat → Prop) (w : World) (H : Sd B w p ds F) :
    Calls Try.prog 12 #[.pointer (some ⟨p, 0, none⟩)] w fun r w' => r = .returned (.int .i64 (ds.length : Nat)) ∧ w = w' := by
  obtain ⟨v, ⟨h1, h2, h3⟩, rfl⟩ := H
  obtain ⟨A, cap, rfl, hc, hm, _, _⟩ := h3.shape
  have c0 := (cell_of_row w p 0 _ _ _ h1).trans rfl
  go_enter Try.func12, Try.ntmps12
  go_wp2_with fail
  go_ret
  exact ⟨rfl, rfl⟩

set_option maxHeartbeats 2000000 in
theorem put_any (B p : Nat) (ds : List D) (F : Nat → Prop) (b : Bool) (e : E) (w : World) (H : Sd B w p ds F) (hB : B ≤ w.heap.size) (hl : ds.length < 100000) :
    Calls Try.prog 22 #[.pointer (some ⟨p, 0, none⟩), .bool b, .agg #[.string e.key, .int .i64 e.id]] w fun r w' => r = .returned (.tuple #[]) ∧ ∃ F', Sd B w' p (ds ++ [⟨b, e⟩]) F' ∧ Mv F F' w w' := by
  obtain ⟨v, ⟨h1, h2, h3⟩, rfl⟩ := H
  obtain ⟨iD, hiD, hzD, hsD, hbD⟩ := info_parts infoD
  obtain ⟨A, cap, rfl, hc, hm, _, _⟩ := h3.shape
  have c0 := (cell_of_row w p 0 _ _ _ h1).trans rfl
  have hp := lt_of_block h1
  have m0 := World.new_ne w ⟨p, 0, none⟩ c0
  have hpn : ¬ own (.slice A ds.length cap) p := fun h9 => h3.ne h1 (by decide) h9
  have bb : Below w.heap.size w (((w.alloc (.cells #[.string e.key, .int .i64 e.id] 36)).alloc (.cells #[.bool b, .string e.key, .int .i64 e.id] 55)).drew) := pw_below (n := 1) (bthen (balloc _) (balloc _))
  have HNB : (((w.alloc (.cells #[.string e.key, .int .i64 e.id] 36)).alloc (.cells #[.bool b, .string e.key, .int .i64 e.id] 55)).drew).heap[w.heap.size + 1]? = some (.cells #[.bool b, .string e.key, .int .i64 e.id] 55 (0, 0)) := by
    have h9 := heap_alloc_new (w.alloc (.cells #[.string e.key, .int .i64 e.id] 36)) (.cells #[.bool b, .string e.key, .int .i64 e.id] 55)
    rw [World.size_alloc] at h9
    exact h9
  obtain ⟨v3, w3, hr, hv3, m3⟩ := run_app_of (P := Try.prog) (h3.below bb) (Nat.le_trans hB bb.size) 51 51 iD _ 32 Try.underlying51 hiD hzD hsD hbD rfl (by omega) ⟨w.heap.size + 1, 0, none⟩ 1 1 (by omega) [.bool b, .string e.key, .int .i64 e.id] rfl
    (fun i u hu => by rw [add0, cell_of_row _ _ _ _ _ _ HNB]; simpa using hu) (by intro u hu; simp at hu; rcases hu with rfl | rfl | rfl <;> rfl) (by omega) (by omega)
  obtain ⟨A3, cap3, rfl, _, _, _, _⟩ := hv3.shape
  have C3 := m3.cell (keep_cell bb c0) hpn
  have f0 : w.frozen? ⟨p, 0, none⟩ = false := by simp [World.frozen?, h1]
  have F3 := (m3.frozen (a := ⟨p, 0, none⟩) (by show p < ((w.alloc _).alloc _).heap.size; simp; omega) hpn).trans (((bcell bb).2 p 0 hp).trans f0)
  have Z3 := m3.at_ ((bb.block p hp).trans h1) hpn
  have Z4 := block_setCell Z3 0 (.slice A3 (ds.length + 1) cap3) (by simp)
  have hn3 : (Value.slice A3 (ds.length + 1) cap3).ownBlock ≠ some p := hv3.ne Z3 (by decide)
  have R4 : Of B (w3.setCell ⟨p, 0, none⟩ (.slice A3 (ds.length + 1) cap3)) 55 3 (.slice A3 (ds.length + 1) cap3) (ds ++ [(⟨b, e⟩ : D)]).length (dcells (ds ++ [(⟨b, e⟩ : D)])) := by
    rw [List.length_append, dcells_append]
    exact hv3.stays fun k hk => heap_setCell_other w3 _ k _ fun e9 => hn3 (by rw [hk, e9])
  have M4 : Mv (SdF p (.slice A ds.length cap)) (SdF p (.slice A3 (ds.length + 1) cap3)) w (w3.setCell ⟨p, 0, none⟩ (.slice A3 (ds.length + 1) cap3)) := by
    have h0 := ((Mv.of_below (F := own (.slice A ds.length cap)) bb).trans m3)
    refine ⟨h0.os, h0.tape, h0.output, by simpa using h0.size, fun k hk hc => ?_, fun k hk => ?_⟩
    · exact (heap_setCell_other w3 _ k _ fun e9 => hc (.inl e9)).trans (h0.block k hk fun h9 => hc (.inr h9))
    · rcases hk with rfl | hk
      · exact .inl (.inl rfl)
      · exact (h0.new k hk).imp .inr id
  have HR := hid_mk (And.intro Z4 (And.intro R4 M4))
  clear hv3 m3 Z3 Z4 R4 M4 bb HNB hpn hn3 h1 h3 hiD hzD hsD hbD
  go_enter Try.func22, Try.ntmps22
  go_wp2_with fail
  go_region_law (refine step_append_runR rfl (.tmp 10) (.tmp 14) 51 51 rfl _ _ (by simp [Act.eval, Act.put]) (by simp [Act.eval, Act.put]) hr ?_)
  all_goals
    go_wp2_with fail
    first | go_end0 | (refine bodyPost_ret (results_none rfl _ _ _) rfl ?_)
    exact ⟨rfl, _, ⟨_, ⟨HR.out.1, h2, HR.out.2.1⟩, rfl⟩, HR.out.2.2⟩

end Go.Proofs.Ytaoamkkgiiiejaa
