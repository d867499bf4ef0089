/- Layer 12's laws: the document's examples hold; deeds that came in, in a slice. -/
import Derived.Test.YtehcliogjnpehabGateD
namespace Go.Proofs.Ytehcliogjnpehab
open Go.RowKit
set_option linter.unusedVariables false

theorem ids_lit (w : World) (B : Nat) (hB : B ≤ w.heap.size) (x : Int) : Ids B (w.alloc (.cells #[.int .i64 x] 2)) (.slice (some ⟨w.heap.size, 0, none⟩) 1 1) [x] :=
  World.ownsRow_lit (base := B) (e := 2) (size := 1) w #[.int .i64 x] 1 hB (by decide) rfl

theorem awake_any (w : World) : Calls Try.prog 4 #[] w fun e w' => e = .returned (.bool true) ∧ Below w.heap.size w w' := by
  have n0 : newG 1 2 = ⟨1, 2, [], []⟩ := rfl
  have k0 : (⟨1, 2, [], []⟩ : G).ok := n0 ▸ newG_ok 1 2
  have n1 : askG ⟨1, 2, [], []⟩ 1 = ⟨1, 2, [1], []⟩ := by decide +kernel
  have k1 : (⟨1, 2, [1], []⟩ : G).ok := n1 ▸ askG_ok _ 1 k0
  have n2 : askG ⟨1, 2, [1], []⟩ 2 = ⟨1, 2, [1], [2]⟩ := by decide +kernel
  have k2 : (⟨1, 2, [1], [2]⟩ : G).ok := n2 ▸ askG_ok _ 2 k1
  have n3 : leaveG ⟨1, 2, [1], [2]⟩ 1 = ⟨1, 2, [2], []⟩ := by decide +kernel
  have k3 : (⟨1, 2, [2], []⟩ : G).ok := n3 ▸ leaveG_ok _ 1 k2
  have c1 : ∀ B p F w, Gate B w p ⟨1, 2, [], []⟩ F → Calls Try.prog 7 #[.pointer (some ⟨p, 0, none⟩), .int .i64 1] w fun e w' => e = .returned (.int .i64 1) ∧ ∃ F', Gate B w' p ⟨1, 2, [1], []⟩ F' ∧ Mv F F' w w' :=
    fun B p F w h => n1 ▸ ask_any ⟨1, 2, [], []⟩ B p F 1 w h k0
  have c2 : ∀ B p F w, Gate B w p ⟨1, 2, [1], []⟩ F → Calls Try.prog 7 #[.pointer (some ⟨p, 0, none⟩), .int .i64 2] w fun e w' => e = .returned (.int .i64 2) ∧ ∃ F', Gate B w' p ⟨1, 2, [1], [2]⟩ F' ∧ Mv F F' w w' :=
    fun B p F w h => n2 ▸ ask_any ⟨1, 2, [1], []⟩ B p F 2 w h k1
  have c3 : ∀ B p F w, Gate B w p ⟨1, 2, [1], [2]⟩ F → Calls Try.prog 10 #[.pointer (some ⟨p, 0, none⟩), .int .i64 1] w fun e w' => ∃ v, e = .returned v ∧ Ids w.heap.size w' v [2] ∧ ∃ F', Gate B w' p ⟨1, 2, [2], []⟩ F' ∧ Mv F F' w w' ∧ Apart v F' :=
    fun B p F w h => n3 ▸ leave_any ⟨1, 2, [1], [2]⟩ B p F 1 w h k2
  have K3 := hid_mk k3
  have C1 := hid_mk c1; have C2 := hid_mk c2; have C3 := hid_mk c3
  have N0 := hid_mk n0
  clear n0 k0 n1 k1 n2 k2 n3 k3 c1 c2 c3
  go_enter Try.func4, Try.ntmps4
  go_wp2_with fail
  refine (new_any 1 2 _).mono ?_
  rintro e w1 ⟨rfl, ⟨F1, h1⟩, b1⟩
  rw [N0.out] at h1
  go_wp2_with fail
  refine (C1.out _ _ _ _ h1).mono ?_
  rintro e w2 ⟨rfl, F2, h2, m2⟩
  go_wp2_with fail
  refine (C2.out _ _ _ _ h2).mono ?_
  rintro e w3 ⟨rfl, F3, h3, m3⟩
  go_wp2_with fail
  refine (C3.out _ _ _ _ h3).mono ?_
  rintro e w4 ⟨v4, rfl, hv4, F4, h4, m4, _⟩
  have B1 := b1.trans ((h1.moved m2).trans ((h2.moved m3).trans (h3.moved m4)))
  go_wp2_with fail
  refine (same_true [2] _ w.heap.size _ _ _ (World.ownsRow.alloc hv4 _) (ids_lit _ _ B1.size _)).mono ?_
  rintro e w5 ⟨rfl, b5⟩
  have h5 := (h4.below (balloc _)).below b5
  have B2 := bthen (bthen B1 (balloc _)) b5
  go_wp2_with fail
  refine (inside_any _ _ _ _ _ h5 K3.out).mono ?_
  rintro e w6 ⟨v6, rfl, hv6, b6⟩
  have h6 := h5.below b6
  have B3 := bthen B2 b6
  go_wp2_with fail
  refine (same_true [2] _ w.heap.size _ _ _ (World.ownsRow.alloc hv6 _) (ids_lit _ _ B3.size _)).mono ?_
  rintro e w7 ⟨rfl, b7⟩
  have h7 := (h6.below (balloc _)).below b7
  have B4 := bthen (bthen B3 (balloc _)) b7
  go_wp2_with fail
  refine (waiting_any _ _ _ _ _ h7 K3.out).mono ?_
  rintro e w8 ⟨v8, rfl, hv8, b8⟩
  have B5 := bthen B4 b8
  obtain ⟨A8, cap8, rfl, _, _, _⟩ := ownsRow_shape hv8
  go_wp2_with fail
  go_ret
  exact ⟨rfl, B5⟩

/-! ### Deeds that came in -/
structure Deed where
  kind : Int
  id : Int
  deriving Inhabited
def Deed.ok (a : Deed) : Prop := 0 ≤ a.kind ∧ a.kind ≤ 255 ∧ 0 ≤ a.id ∧ a.id ≤ 255
def dth (l : List Deed) (i : Nat) : Deed := l.getD i default
theorem take_dth (l : List Deed) (j : Nat) (h : j < l.length) : l.take (j + 1) = l.take j ++ [dth l j] := by
  rw [List.take_succ_eq_append_getElem h]
  unfold dth
  rw [List.getD_eq_getElem?_getD, List.getElem?_eq_getElem h]
  rfl
def InActs (w : World) (A : Option Addr) (n cap : Nat) (xs : List Deed) : Prop :=
  xs.length = n ∧ n ≤ cap ∧ cap ≤ 9223372036854775807 ∧ (∀ i, i < n → (dth xs i).ok) ∧ (0 < n → ∃ b off, A = some ⟨b, off, none⟩ ∧ b < w.heap.size ∧ ∀ i, i < n →
    w.cell? ⟨b, off + i * 2, none⟩ = some (.int .u8 (dth xs i).kind) ∧ w.cell? ⟨b, off + i * 2 + 1, none⟩ = some (.int .u8 (dth xs i).id))
theorem acts_later {w wr : World} {b o : Nat} {x : Deed} (hb : Below w.heap.size w wr) (hg : b < w.heap.size)
    (h : w.cell? ⟨b, o, none⟩ = some (.int .u8 x.kind) ∧ w.cell? ⟨b, o + 1, none⟩ = some (.int .u8 x.id)) :
    wr.cell? ⟨b, o, none⟩ = some (.int .u8 x.kind) ∧ wr.cell? ⟨b, o + 1, none⟩ = some (.int .u8 x.id) :=
  ⟨(hb.cell (p := ⟨b, o, none⟩) hg).trans h.1, (hb.cell (p := ⟨b, o + 1, none⟩) hg).trans h.2⟩

end Go.Proofs.Ytehcliogjnpehab
