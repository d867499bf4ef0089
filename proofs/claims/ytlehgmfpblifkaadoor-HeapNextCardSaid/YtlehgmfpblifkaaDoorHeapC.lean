/- A heap: a record added, told, told the next one, set. -/
import Derived.Test.YtlehgmfpblifkaaDoorHeapB
import Derived.Deep.AppendLies
import Derived.Deep.RegionLaw
namespace Go.Proofs.YtlehgmfpblifkaaDoor
open Go.RowKit
set_option linter.unusedVariables false
attribute [local go_sem ↓] Go.wp_at_zero Go.wp_at_succ

theorem bcell {W w1 : World} (hb : Below W.heap.size W w1) : (∀ b o, b < W.heap.size → w1.cell? ⟨b, o, none⟩ = W.cell? ⟨b, o, none⟩) ∧ (∀ b o, b < W.heap.size → w1.frozen? ⟨b, o, none⟩ = W.frozen? ⟨b, o, none⟩) :=
  ⟨fun b o h => hb.cell (p := ⟨b, o, none⟩) h, fun b o h => hb.frozen (p := ⟨b, o, none⟩) h⟩
theorem Mv.frozen {F F' : Nat → Prop} {w w' : World} (h : Mv F F' w w') {a : Addr} (hb : a.block < w.heap.size) (hk : ¬ F a.block) : w'.frozen? a = w.frozen? a :=
  World.frozen?_of_block (h.block a.block hb hk)
theorem step_append_runR {P : Program} {ops : Array Oper} {o : Oper} {a : Act} {w : World} {K : Act → World → Prop} {Q : Exit → Act → World → Prop} {E : Prop}
    (hg : o.guard = none) (d x : Operand) (dT sT : TypeId) (hop : o.op = Op.call { callee := Callee.builtin Builtin.append, args := #[d, x], argTypes := #[dT, sT] })
    (v u : Value) (hd : a.eval d = v) (hx : a.eval x = u) {v' : Value} {w' : World} (hr : (Builtin.append_ #[dT, sT] o.type #[v, u]).run P w = .ok v' w') (hK : K (a.put o.dst v') w') :
    if Region.wanted o (yielded ops a.tmps) = true then Oper.wp P o a w K Q else E := by
  have hw : Region.wanted o (yielded ops a.tmps) = true := by simp [Region.wanted, hg]
  rw [if_pos hw]
  unfold Oper.wp
  simp [execOp, hop, resolve, invoke, builtin, hd, hx, hr, Result.andThen]
  exact hK
theorem infoH : (Tryd.prog.info? 42).map (fun i => (i.zero, i.size, i.bytes)) = some (some zDc.agg, 6, 88) := by kernel_rfl

theorem hins_full (B p : Nat) (ds : List Dc) (last : Int) (F : Nat → Prop) (v : Rv) (w : World) (H : Hp B w p ds last F) (hl : 500 ≤ ds.length) :
    Calls Tryd.prog 11 #[.pointer (some ⟨p, 0, none⟩), v.agg] w fun r w' => r = .returned (.tuple #[.int .i64 0, .bool false]) ∧ Below w.heap.size w w' := by
  obtain ⟨d, h1, h2, h3, rfl⟩ := H
  obtain ⟨A, cap, rfl, hc, hm, _⟩ := rw_docs h3
  have c0 := (cell_of_row w p 0 _ _ _ h1).trans rfl
  have hp := lt_of_block h1
  have m0 := World.new_ne w ⟨p, 0, none⟩ c0
  obtain ⟨vk, vi, vt, vl, vf⟩ := v
  unfold Rv.agg Sl.v
  have hge : (500 : Int) ≤ (ds.length : Int) := by omega
  go_enter Tryd.func11, Tryd.ntmps11
  go_wp2_with fail
  go_ret2
  exact ⟨rfl, balloc _⟩

set_option maxHeartbeats 2000000 in
set_option maxRecDepth 100000 in
theorem hins_any (B p : Nat) (ds : List Dc) (last : Int) (F : Nat → Prop) (v : Rv) (w : World) (H : Hp B w p ds last F) (hB : B ≤ w.heap.size) (hl : ds.length < 500) (h0 : 0 ≤ last) (hl2 : last < 1000000000) :
    Calls Tryd.prog 11 #[.pointer (some ⟨p, 0, none⟩), v.agg] w fun r w' => r = .returned (.tuple #[.int .i64 (last + 1), .bool true]) ∧ ∃ F', Hp B w' p (ds ++ [⟨last + 1, v⟩]) (last + 1) F' ∧ Mv F F' w w' := by
  obtain ⟨d, h1, h2, h3, rfl⟩ := H
  obtain ⟨iD, hiD, hzD, hsD, hbD⟩ := info_parts infoH
  obtain ⟨A, cap, rfl, hc, hm, _⟩ := rw_docs h3
  have c0 := (cell_of_row w p 0 _ _ _ h1).trans rfl
  have c1 := (cell_of_row w p 1 _ _ _ h1).trans rfl
  have hp := lt_of_block h1
  have m0 := World.new_ne w ⟨p, 0, none⟩ c0
  have hpn : ¬ own (.slice A ds.length cap) p := fun h9 => h3.ne h1 (by decide) h9
  have f0 : w.frozen? ⟨p, 0, none⟩ = false := by simp [World.frozen?, h1]
  have f1 : w.frozen? ⟨p, 1, none⟩ = false := by simp [World.frozen?, h1]
  have hw1 : IntKind.i64.wrap (last + 1) = last + 1 := by rw [IntKind.wrap_i64]; omega
  have hlt : (ds.length : Int) < 500 := by omega
  obtain ⟨vk, vi, vt, vl, vf⟩ := v
  obtain ⟨w1, hw1e⟩ : ∃ w1, w1 = w.setCell ⟨p, 1, none⟩ (.int .i64 (last + 1)) := ⟨_, rfl⟩
  have hz1 : w1.heap.size = w.heap.size := by rw [hw1e]; simp
  have Z1 : w1.heap[p]? = some (.cells #[.slice A ds.length cap, .int .i64 (last + 1)] 57 (0, 0)) := by rw [hw1e]; exact block_setCell h1 1 _ (by simp)
  have R1 : Rw B w1 42 6 (.slice A ds.length cap) ds.length (hcells ds) := by rw [hw1e]; exact h3.setCell_other _ _ hpn
  have bb : Below w1.heap.size w1 (((w1.alloc (.cells #[.int .i64 vk, .int .i64 vi, .string vt, vl.v, vf.v] 36)).alloc (.cells #[.int .i64 (last + 1), .int .i64 vk, .int .i64 vi, .string vt, vl.v, vf.v] 42)).drew) := pw_below (n := 1) (bthen (balloc _) (balloc _))
  have HNB : (((w1.alloc (.cells #[.int .i64 vk, .int .i64 vi, .string vt, vl.v, vf.v] 36)).alloc (.cells #[.int .i64 (last + 1), .int .i64 vk, .int .i64 vi, .string vt, vl.v, vf.v] 42)).drew).heap[w.heap.size + 1]? = some (.cells #[.int .i64 (last + 1), .int .i64 vk, .int .i64 vi, .string vt, vl.v, vf.v] 42 (0, 0)) := by
    have h9 := heap_alloc_new (w1.alloc (.cells #[.int .i64 vk, .int .i64 vi, .string vt, vl.v, vf.v] 36)) (.cells #[.int .i64 (last + 1), .int .i64 vk, .int .i64 vi, .string vt, vl.v, vf.v] 42)
    rw [World.size_alloc, hz1] at h9
    exact h9
  obtain ⟨v3, w3, hr, hv3, m3⟩ := run_app_rw (P := Tryd.prog) (R1.below bb) (Nat.le_trans (hz1 ▸ hB) bb.size) 55 55 iD _ 88 Tryd.underlying55 hiD hzD hsD hbD rfl (by omega) ⟨w.heap.size + 1, 0, none⟩ 1 1 (by omega) [.int .i64 (last + 1), .int .i64 vk, .int .i64 vi, .string vt, vl.v, vf.v] rfl
    (fun i u hu => by rw [add0, cell_of_row _ _ _ _ _ _ HNB]; simpa using hu) (dc_one ⟨last + 1, ⟨vk, vi, vt, vl, vf⟩⟩) (by omega) (by omega)
  obtain ⟨A3, cap3, rfl, _, _, _⟩ := hv3.shape
  have hp1 : p < w1.heap.size := by rw [hz1]; exact hp
  have Z3 := m3.at_ ((bb.block p hp1).trans Z1) hpn
  have Z4 := block_setCell Z3 0 (.slice A3 (ds.length + 1) cap3) (by simp)
  have hn3 : (Value.slice A3 (ds.length + 1) cap3).ownBlock ≠ some p := hv3.ne Z3 (by decide)
  have R4 : Rw B (w3.setCell ⟨p, 0, none⟩ (.slice A3 (ds.length + 1) cap3)) 42 6 (.slice A3 (ds.length + 1) cap3) (ds ++ [(⟨last + 1, ⟨vk, vi, vt, vl, vf⟩⟩ : Dc)]).length (hcells (ds ++ [(⟨last + 1, ⟨vk, vi, vt, vl, vf⟩⟩ : Dc)])) := by
    rw [List.length_append, hcells_append]
    exact hv3.stays fun k hk => heap_setCell_other w3 _ k _ fun e9 => hn3 (by rw [hk, e9])
  have M4 : Mv (HpF p (.slice A ds.length cap)) (HpF p (.slice A3 (ds.length + 1) cap3)) w (w3.setCell ⟨p, 0, none⟩ (.slice A3 (ds.length + 1) cap3)) := by
    have h0 := ((Mv.of_below (F := own (.slice A ds.length cap)) bb).trans m3)
    refine ⟨h0.os.trans (by rw [hw1e]; rfl), h0.tape.trans (by rw [hw1e]; rfl), h0.output.trans (by rw [hw1e]; rfl), by have := h0.size; simp; omega, fun k hk hc => ?_, fun k hk => ?_⟩
    · refine (heap_setCell_other w3 _ k _ fun e9 => hc (.inl e9)).trans ((h0.block k (by omega) fun h9 => hc (.inr h9)).trans ?_)
      rw [hw1e]
      exact heap_setCell_other w _ k _ fun e9 => hc (.inl e9)
    · rcases hk with rfl | hk
      · exact .inl (.inl rfl)
      · exact (h0.new k hk).imp .inr fun h => by omega
  have C3 : w3.cell? ⟨p, 0, none⟩ = some (.slice A ds.length cap) := (cell_of_row _ _ 0 _ _ _ Z3).trans rfl
  have C31 : w3.cell? ⟨p, 1, none⟩ = some (.int .i64 (last + 1)) := (cell_of_row _ _ 1 _ _ _ Z3).trans rfl
  have F3 : w3.frozen? ⟨p, 0, none⟩ = false := by simp [World.frozen?, Z3]
  have HR := hid_mk (And.intro Z4 (And.intro R4 M4))
  clear hv3 m3 Z3 Z4 R4 M4 bb HNB hpn hn3 h1 h3 hiD hzD hsD hbD Z1 R1 hz1 hp1
  rw [hw1e] at hr
  unfold Rv.agg
  simp only [Sl.v] at hr ⊢
  go_enter Tryd.func11, Tryd.ntmps11
  go_wp2_with fail
  go_region_law (refine step_append_runR rfl (.tmp 23) (.tmp 30) 55 55 rfl _ _ (by simp [Act.eval, Act.put]) (by simp [Act.eval, Act.put]) hr ?_)
  all_goals
    go_wp2_with fail
    go_ret2
    exact ⟨rfl, _, ⟨_, HR.out.1, h2, HR.out.2.1, rfl⟩, HR.out.2.2⟩

end Go.Proofs.YtlehgmfpblifkaaDoor
