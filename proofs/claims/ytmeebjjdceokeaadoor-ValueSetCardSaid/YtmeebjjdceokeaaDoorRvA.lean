/- A value's cells; numbers held against one another; appends. -/
import Derived.Test.YtmeebjjdceokeaaDoorRw
import Derived.Test.YtmeebjjdceokeaaDoorTreePure
import Derived.Deep.RegionHeld3
import Derived.Deep.DrawnRows
import Derived.Deep.AppendLies
import Derived.Deep.RegionLaw
namespace Go.Proofs.YtmeebjjdceokeaaDoor
open Go.RowKit
set_option linter.unusedVariables false
attribute [local go_sem ↓] Go.wp_at_zero Go.wp_at_succ

/-- A slice, as three numbers. -/
structure Sl where
  a : Option Addr
  n : Nat
  c : Nat
def Sl.v (s : Sl) : Value := .slice s.a s.n s.c
/-- A value's five cells, unread. -/
structure Rv where
  k : Int
  i : Int
  t : ByteArray
  l : Sl
  f : Sl
def Rv.cs (v : Rv) : List Value := [.int .i64 v.k, .int .i64 v.i, .string v.t, v.l.v, v.f.v]
def Rv.agg (v : Rv) : Value := .agg #[.int .i64 v.k, .int .i64 v.i, .string v.t, v.l.v, v.f.v]
def zR : Rv := ⟨0, 0, ⟨#[]⟩, ⟨none, 0, 0⟩, ⟨none, 0, 0⟩⟩
theorem keep_cell {W w1 : World} (hb : Below W.heap.size W w1) {a : Addr} {v : Value} (h : W.cell? a = some v) : w1.cell? a = some v := (hb.cell (World.block_lt_of_cell? W a h)).trans h
theorem ret_pair {a b : Int} {x y : Bool} (h : a = b) (h' : x = y) : Ending.returned (.tuple #[.int .i64 a, .bool x]) = .returned (.tuple #[.int .i64 b, .bool y]) := by rw [h, h']
theorem isnan_any (x : Int) (w : World) : Calls Tryd.prog 44 #[.int .i64 x] w fun e w' => e = .returned (.bool false) ∧ w = w' := by
  have q : (x != x) = false := by simp
  go_enter Tryd.func44, Tryd.ntmps44
  go_wp2_with fail
  go_ret
  exact ⟨by simp, rfl⟩
theorem cmpint_any (x y : Int) (w : World) : Calls Tryd.prog 26 #[.int .i64 x, .int .i64 y] w fun e w' => e = .returned (.int .i64 (sgn x y)) ∧ w = w' := by
  by_cases h1 : x < y
  · have hs : Hid (sgn x y = -1) := if_pos h1
    go_enter Tryd.func26, Tryd.ntmps26
    go_wp2_with (go_at_call 44; refine (isnan_any _ _).mono ?_; rintro e w' ⟨rfl, rfl⟩)
    go_ret
    exact ⟨ret_int hs.out.symm, rfl⟩
  · by_cases h2 : y < x
    · have hs : Hid (sgn x y = 1) := (if_neg h1).trans (if_pos h2)
      go_enter Tryd.func26, Tryd.ntmps26
      go_wp2_with (go_at_call 44; refine (isnan_any _ _).mono ?_; rintro e w' ⟨rfl, rfl⟩)
      go_ret
      exact ⟨ret_int hs.out.symm, rfl⟩
    · have hs : Hid (sgn x y = 0) := (if_neg h1).trans (if_neg h2)
      go_enter Tryd.func26, Tryd.ntmps26
      go_wp2_with (go_at_call 44; refine (isnan_any _ _).mono ?_; rintro e w' ⟨rfl, rfl⟩)
      go_ret
      exact ⟨ret_int hs.out.symm, rfl⟩
theorem sgn_lt (x y : Int) : (sgn x y < 0) = (x < y) := by unfold sgn; split <;> (try split) <;> simp <;> omega
theorem sgn_eq (x y : Int) : (sgn x y = 0) = (x = y) := by unfold sgn; split <;> (try split) <;> simp <;> omega

theorem bcell {W w1 : World} (hb : Below W.heap.size W w1) : (∀ b o, b < W.heap.size → w1.cell? ⟨b, o, none⟩ = W.cell? ⟨b, o, none⟩) ∧ (∀ b o, b < W.heap.size → w1.frozen? ⟨b, o, none⟩ = W.frozen? ⟨b, o, none⟩) :=
  ⟨fun b o h => hb.cell (p := ⟨b, o, none⟩) h, fun b o h => hb.frozen (p := ⟨b, o, none⟩) h⟩
theorem Mv.frozen {F F' : Nat → Prop} {w w' : World} (h : Mv F F' w w') {a : Addr} (hb : a.block < w.heap.size) (hk : ¬ F a.block) : w'.frozen? a = w.frozen? a :=
  World.frozen?_of_block (h.block a.block hb hk)
theorem step_append_runR {P : Program} {ops : Array Oper} {o : Oper} {a : Act} {w : World} {K : Act → World → Prop} {Q : Exit → Act → World → Prop} {E : Prop}
    (hg : o.guard = none) (d x : Operand) (dT sT : TypeId) (hop : o.op = Op.call { callee := Callee.builtin Builtin.append, args := #[d, x], argTypes := #[dT, sT] })
    (v u : Value) (hd : a.eval d = v) (hx : a.eval x = u) {v' : Value} {w' : World} (hr : (Builtin.append_ #[dT, sT] o.type #[v, u]).run P w = .ok v' w') (hK : K (a.put o.dst v') w') :
    if Region.wanted o (yielded ops a.tmps) = true then Oper.wp P o a w K Q else E := by
  have hw : Region.wanted o (yielded ops a.tmps) = true := by simp [Region.wanted, hg]
  rw [if_pos hw]
  unfold Oper.wp
  simp [execOp, hop, resolve, invoke, builtin, hd, hx, hr, Result.andThen]
  exact hK

end Go.Proofs.YtmeebjjdceokeaaDoor
