/- The place of a field, by a function that asks its name. -/
import Derived.Test.YtmeebjjdceokeaaDoorCmpOrd
namespace Go.Proofs.YtmeebjjdceokeaaDoor
open Go.RowKit
set_option linter.unusedVariables false
attribute [local go_sem ↓] Go.wp_at_zero Go.wp_at_succ

def idxF (p : ByteArray → Bool) : List (ByteArray × V) → Nat → Int
  | [], _ => -1
  | f :: l, i => if p f.1 = true then (i : Int) else idxF p l (i + 1)
theorem idx_step {p : ByteArray → Bool} {l : List (ByteArray × V)} {k : Nat} (hk : k < l.length) : idxF p (l.drop k) k = if p l[k].1 = true then (k : Int) else idxF p (l.drop (k + 1)) (k + 1) := by
  rw [List.drop_eq_getElem_cons hk]; rfl
theorem idx_end (p : ByteArray → Bool) (l : List (ByteArray × V)) : idxF p (l.drop l.length) l.length = -1 := by rw [List.drop_length]; rfl
/-- What a function with one captured text says of fields. -/
def Tells (f c : Nat) (name : ByteArray) (p : ByteArray → Bool) : Prop :=
  ∀ (rx : Fv) (W : World), W.cell? ⟨c, 0, none⟩ = some (.string name) → Calls Tryd.prog f #[Fv.agg rx, .pointer (some ⟨c, 0, none⟩)] W fun e W' => e = .returned (.bool (p rx.1)) ∧ Below W.heap.size W W'
theorem at1_any (c : Nat) (name : ByteArray) : Tells 47 c name (fun n => n.toList == name.toList) := by
  intro rx W hc
  obtain ⟨xs, xk, xi, xt, ⟨xa, xn, xc⟩, ⟨ya, yn, yc⟩⟩ := rx
  have hcl : c < W.heap.size := World.block_lt_of_cell? W _ hc
  simp only [Fv.agg, Sl.v]
  go_enter Tryd.func47, Tryd.ntmps47
  go_wp2_with fail
  go_ret
  exact ⟨rfl, balloc _⟩
theorem set1_any (c : Nat) (name : ByteArray) : Tells 36 c name (fun n => !Op.bytesLess n.toList name.toList && !(n.toList == name.toList)) := by
  intro rx W hc
  obtain ⟨xs, xk, xi, xt, ⟨xa, xn, xc⟩, ⟨ya, yn, yc⟩⟩ := rx
  have hcl : c < W.heap.size := World.block_lt_of_cell? W _ hc
  simp only [Fv.agg, Sl.v]
  go_enter Tryd.func36, Tryd.ntmps36
  go_wp2_with fail
  go_ret
  exact ⟨rfl, balloc _⟩

set_option maxHeartbeats 2000000 in
set_option maxRecDepth 100000 in
theorem index_at (d c : Nat) (name : ByteArray) (p : ByteArray → Bool) (hT : Tells 47 c name p) (l : List (ByteArray × V)) (s : Sl) (w : World) (R : RowF d w l s) (hc : w.cell? ⟨c, 0, none⟩ = some (.string name)) :
    Calls Tryd.prog 35 #[s.v, .func (.func 47) #[] #[.pointer (some ⟨c, 0, none⟩)]] w fun e w' => e = .returned (.int .i64 (idxF p l 0)) ∧ Below w.heap.size w w' := by
  obtain ⟨sa, sn, sc⟩ := s
  obtain ⟨e1, q1, q2, HA⟩ := R.at_
  simp only at e1 q1 q2 HA
  subst e1
  have HTL := hid_mk hT
  have HHA := hid_mk HA
  simp only [Sl.v]
  have HCC := hid_mk hc
  clear hT HA R hc
  go_enter Tryd.func35, Tryd.ntmps35
  go_wp2_with fail
  go_loopw [8] (fun iv wr => ∃ k : Nat, iv = .int .i64 k ∧ k ≤ l.length ∧ Hid (idxF p l 0 = idxF p (l.drop k) k) ∧ Below w.heap.size w wr) (fun iv _ => l.length - (intOf iv).toNat)
  case atStart => exact ⟨0, rfl, Nat.zero_le _, rfl, Below.refl _ _⟩
  case round =>
    obtain ⟨k, rfl, hk, HC, hb⟩ := hrel
    by_cases hlt : k < l.length
    · obtain ⟨g, rfl, hg, hcc⟩ := HHA.out (by omega)
      obtain ⟨x, hnm, _, c0, c1, c2, c3, c4, c5⟩ := hcc k hlt
      obtain ⟨xs, xk, xi, xt, ⟨xa, xn, xc⟩, ⟨ya, yn, yc⟩⟩ := x
      simp only [Sl.v] at c0 c1 c2 c3 c4 c5 hnm
      have c0' := keep_cell hb c0
      have c1' := keep_cell hb c1
      have c2' := keep_cell hb c2
      have c3' := keep_cell hb c3
      have c4' := keep_cell hb c4
      have c5' := keep_cell hb c5
      have hcw := hid_mk (keep_cell hb HCC.out)
      have k0 : (0 : Int) ≤ (k : Int) := by omega
      have k1 : (k : Int) < (l.length : Int) := by omega
      have HST := hid_mk (idx_step (p := p) hlt)
      have HNq := hid_mk hnm
      clear hcc c0 c1 c2 c3 c4 c5 hnm
      go_wp2_with fail
      refine (HTL.out (xs, ⟨xk, xi, xt, ⟨xa, xn, xc⟩, ⟨ya, yn, yc⟩⟩) _ hcw.out).mono ?_
      rintro e w4 ⟨rfl, b4⟩
      have hb4 := hb.trans (b4.mono hb.size)
      clear b4 c0' c1' c2' c3' c4' c5'
      simp only
      cases hp : p xs with
      | true =>
        have HZ : Hid (idxF p l 0 = (k : Int)) := hid_mk (by rw [HC.out, HST.out, HNq.out, if_pos hp])
        clear HC HST hp
        go_wp2_with fail
        go_ret
        exact ⟨ret_int HZ.out.symm, hb4⟩
      | false =>
        have HZ : Hid (idxF p l 0 = idxF p (l.drop (k + 1)) (k + 1)) := hid_mk (by rw [HC.out, HST.out, HNq.out, if_neg (by rw [hp]; simp)])
        clear HC HST hp
        go_wp2_with fail
        exact ⟨⟨k + 1, by go_num, by omega, HZ, hb4⟩, by simp [intOf]; omega⟩
    · obtain rfl : k = l.length := by omega
      have HZ : Hid (idxF p l 0 = -1) := hid_mk (by rw [HC.out]; exact idx_end p l)
      clear HC
      go_wp2_with fail
      go_ret
      exact ⟨ret_int HZ.out.symm, hb⟩


set_option maxHeartbeats 2000000 in
set_option maxRecDepth 100000 in
theorem index_set (d c : Nat) (name : ByteArray) (p : ByteArray → Bool) (hT : Tells 36 c name p) (l : List (ByteArray × V)) (s : Sl) (w : World) (R : RowF d w l s) (hc : w.cell? ⟨c, 0, none⟩ = some (.string name)) :
    Calls Tryd.prog 35 #[s.v, .func (.func 36) #[] #[.pointer (some ⟨c, 0, none⟩)]] w fun e w' => e = .returned (.int .i64 (idxF p l 0)) ∧ Below w.heap.size w w' := by
  obtain ⟨sa, sn, sc⟩ := s
  obtain ⟨e1, q1, q2, HA⟩ := R.at_
  simp only at e1 q1 q2 HA
  subst e1
  have HTL := hid_mk hT
  have HHA := hid_mk HA
  simp only [Sl.v]
  have HCC := hid_mk hc
  clear hT HA R hc
  go_enter Tryd.func35, Tryd.ntmps35
  go_wp2_with fail
  go_loopw [8] (fun iv wr => ∃ k : Nat, iv = .int .i64 k ∧ k ≤ l.length ∧ Hid (idxF p l 0 = idxF p (l.drop k) k) ∧ Below w.heap.size w wr) (fun iv _ => l.length - (intOf iv).toNat)
  case atStart => exact ⟨0, rfl, Nat.zero_le _, rfl, Below.refl _ _⟩
  case round =>
    obtain ⟨k, rfl, hk, HC, hb⟩ := hrel
    by_cases hlt : k < l.length
    · obtain ⟨g, rfl, hg, hcc⟩ := HHA.out (by omega)
      obtain ⟨x, hnm, _, c0, c1, c2, c3, c4, c5⟩ := hcc k hlt
      obtain ⟨xs, xk, xi, xt, ⟨xa, xn, xc⟩, ⟨ya, yn, yc⟩⟩ := x
      simp only [Sl.v] at c0 c1 c2 c3 c4 c5 hnm
      have c0' := keep_cell hb c0
      have c1' := keep_cell hb c1
      have c2' := keep_cell hb c2
      have c3' := keep_cell hb c3
      have c4' := keep_cell hb c4
      have c5' := keep_cell hb c5
      have hcw := hid_mk (keep_cell hb HCC.out)
      have k0 : (0 : Int) ≤ (k : Int) := by omega
      have k1 : (k : Int) < (l.length : Int) := by omega
      have HST := hid_mk (idx_step (p := p) hlt)
      have HNq := hid_mk hnm
      clear hcc c0 c1 c2 c3 c4 c5 hnm
      go_wp2_with fail
      refine (HTL.out (xs, ⟨xk, xi, xt, ⟨xa, xn, xc⟩, ⟨ya, yn, yc⟩⟩) _ hcw.out).mono ?_
      rintro e w4 ⟨rfl, b4⟩
      have hb4 := hb.trans (b4.mono hb.size)
      clear b4 c0' c1' c2' c3' c4' c5'
      simp only
      cases hp : p xs with
      | true =>
        have HZ : Hid (idxF p l 0 = (k : Int)) := hid_mk (by rw [HC.out, HST.out, HNq.out, if_pos hp])
        clear HC HST hp
        go_wp2_with fail
        go_ret
        exact ⟨ret_int HZ.out.symm, hb4⟩
      | false =>
        have HZ : Hid (idxF p l 0 = idxF p (l.drop (k + 1)) (k + 1)) := hid_mk (by rw [HC.out, HST.out, HNq.out, if_neg (by rw [hp]; simp)])
        clear HC HST hp
        go_wp2_with fail
        exact ⟨⟨k + 1, by go_num, by omega, HZ, hb4⟩, by simp [intOf]; omega⟩
    · obtain rfl : k = l.length := by omega
      have HZ : Hid (idxF p l 0 = -1) := hid_mk (by rw [HC.out]; exact idx_end p l)
      clear HC
      go_wp2_with fail
      go_ret
      exact ⟨ret_int HZ.out.symm, hb⟩


end Go.Proofs.YtmeebjjdceokeaaDoor

