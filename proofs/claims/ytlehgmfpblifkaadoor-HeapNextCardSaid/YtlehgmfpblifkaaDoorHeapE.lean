/- The document's examples of a heap. -/
import Derived.Test.YtlehgmfpblifkaaDoorHeapF
namespace Go.Proofs.YtlehgmfpblifkaaDoor
open Go.RowKit
set_option linter.unusedVariables false
attribute [local go_sem ↓] Go.wp_at_zero Go.wp_at_succ

def r3 : Rv := ⟨2, 3, ⟨#[]⟩, ⟨none, 0, 0⟩, ⟨none, 0, 0⟩⟩
def hA2 : List Dc := [⟨1, zR⟩, ⟨2, r3⟩]
def hA4 : List Dc := [⟨2, r3⟩, ⟨3, zR⟩]
theorem hA2_has : hasD hA2 1 = true := by decide
theorem hA2_del : delD hA2 1 = [⟨2, r3⟩] := rfl
theorem hA4_next : nextD hA4 0 = (⟨2, r3⟩, true) := rfl
theorem hA2_asc : Asc hA2 := by unfold Asc hA2; simp
theorem hA4_asc : Asc hA4 := by unfold Asc hA4; simp

set_option maxHeartbeats 4000000 in
set_option maxRecDepth 100000 in
theorem hawake_any (w : World) : Calls Tryd.prog 8 #[] w fun r w' => r = .returned (.bool true) ∧ Below w.heap.size w w' := by
  go_enter Tryd.func8, Tryd.ntmps8
  go_wp2_with fail
  refine (hnew_any _).mono ?_
  rintro r w1 ⟨p, F1, rfl, T1, b1⟩
  have HT1 := hid_mk T1
  clear T1
  go_wp2_with fail
  refine (hins_any w.heap.size p [] 0 F1 zR _ HT1.out b1.size (by decide) (by decide) (by decide)).mono ?_
  rintro r w2 ⟨rfl, F2, T2, m2⟩
  have b2 := b1.trans (HT1.out.moved m2 b1.size)
  have HT2 : Hid (Hp w.heap.size w2 p [⟨1, zR⟩] 1 F2) := hid_mk T2
  clear T2 m2 HT1 b1
  go_wp2_with fail
  refine (hins_any w.heap.size p [⟨1, zR⟩] 1 F2 r3 _ HT2.out b2.size (by decide) (by decide) (by decide)).mono ?_
  rintro r w3 ⟨rfl, F3, T3, m3⟩
  have b3 := b2.trans (HT2.out.moved m3 b2.size)
  have HT3 : Hid (Hp w.heap.size w3 p hA2 2 F3) := hid_mk T3
  clear T3 m3 HT2 b2
  go_wp2_with fail
  refine (hdel_any w.heap.size p hA2 2 1 F3 _ HT3.out b3.size hA2_asc (by decide)).mono ?_
  rintro r w4 ⟨rfl, F4, T4, m4⟩
  rw [hA2_del] at T4
  rw [hA2_has]
  have b4 := b3.trans (HT3.out.moved m4 b3.size)
  have HT4 := hid_mk T4
  clear T4 m4 HT3 b3
  go_wp2_with fail
  refine (hins_any w.heap.size p [⟨2, r3⟩] 2 F4 zR _ HT4.out b4.size (by decide) (by decide) (by decide)).mono ?_
  rintro r w5 ⟨rfl, F5, T5, m5⟩
  have b5 := b4.trans (HT4.out.moved m5 b4.size)
  have HT5 : Hid (Hp w.heap.size w5 p hA4 3 F5) := hid_mk T5
  clear T5 m5 HT4 b4
  go_wp2_with fail
  refine (hnext_any w.heap.size p hA4 3 0 F5 _ HT5.out hA4_asc (by decide)).mono ?_
  rintro r w6 ⟨rfl, b6⟩
  rw [hA4_next]
  have bz := balloc (w := w6) (.cells #[.int .i64 2, .int .i64 2, .int .i64 3, .string ⟨#[]⟩, .slice none 0 0, .slice none 0 0] 42)
  have bb := bthen b6 bz
  have HT6 := hid_mk (HT5.out.below bb)
  have b7 := b5.trans (bb.mono b5.size)
  have Y := heap_alloc_new w6 (.cells #[.int .i64 2, .int .i64 2, .int .i64 3, .string ⟨#[]⟩, .slice none 0 0, .slice none 0 0] 42)
  have y0 : (w6.alloc (.cells #[.int .i64 2, .int .i64 2, .int .i64 3, .string ⟨#[]⟩, .slice none 0 0, .slice none 0 0] 42)).cell? ⟨w6.heap.size, 0, none⟩ = some (.int .i64 2) := (cell_of_row _ _ 0 _ _ _ Y).trans rfl
  have y2 : (w6.alloc (.cells #[.int .i64 2, .int .i64 2, .int .i64 3, .string ⟨#[]⟩, .slice none 0 0, .slice none 0 0] 42)).cell? ⟨w6.heap.size, 2, none⟩ = some (.int .i64 3) := (cell_of_row _ _ 2 _ _ _ Y).trans rfl
  simp only [Dc.agg, Sl.v, r3]
  clear b6 bz bb HT5 b5 Y
  go_wp2_with fail
  refine (hlen_any w.heap.size p hA4 3 F5 _ HT6.out).mono ?_
  rintro r w7 ⟨rfl, rfl⟩
  rw [show ((hA4.length : Nat) : Int) = 2 from rfl]
  go_wp2_with fail
  refine (hlast_any w.heap.size p hA4 3 F5 _ HT6.out).mono ?_
  rintro r w7 ⟨rfl, rfl⟩
  go_wp2_with fail
  go_ret
  exact ⟨rfl, b7⟩

end Go.Proofs.YtlehgmfpblifkaaDoor
