/- Layer 23's laws: a deed is done; deeds that came in, in a slice. -/
import Derived.Test.YtjbjkkicfdaljaaTurnD
namespace Go.Proofs.Ytjbjkkicfdaljaa
open Go.RowKit
set_option linter.unusedVariables false

def Deed.val (a : Deed) : Value := .agg #[.int .u8 a.kind, .int .u8 a.id, .bool a.runs, .int .i64 a.n]
def Deed.ok (a : Deed) : Prop := 0 ≤ a.kind ∧ a.kind ≤ 255 ∧ 0 ≤ a.id ∧ a.id ≤ 255

theorem do_any (l : List One) (B p : Nat) (a : Deed) (M : Int) (w : World) (h : Tab B w p l) (hok : a.ok) (hl : l.length < 1000000000000) (hM : M < 1000000000000) (hag : AgesLe l M) :
    Calls Try.prog 14 #[.pointer (some ⟨p, 0, none⟩), .agg #[.int .u8 a.kind, .int .u8 a.id, .bool a.runs, .int .i64 a.n]] w fun e w' => e = .returned (.tuple #[.int .i64 (doN l a), .bool (doB l a)]) ∧ Tab B w' p (doL l a) ∧ Only [50, 53] B w w' := by
  obtain ⟨k0, k1, i0, i1⟩ := hok
  have hw1 := hid_mk (show a.who = a.id % 12 from rfl)
  have hO : Only [50, 53] B w (w.alloc (.cells #[.int .u8 a.kind, .int .u8 a.id, .bool a.runs, .int .i64 a.n] 34)) := .of_below (balloc _)
  have h1 : Tab B (w.alloc (.cells #[.int .u8 a.kind, .int .u8 a.id, .bool a.runs, .int .i64 a.n] 34)) p l := h.below (balloc _)
  by_cases c0 : a.kind % 6 = 0
  · have hL : Hid (doL l a = addL l a.who a.runs) := by unfold doL; rw [if_pos c0]; exact rfl
    have hN : Hid (doN l a = 0) := by unfold doN; rw [if_pos (.inl c0)]; exact rfl
    have hB : Hid (doB l a = !hasId l a.who) := by unfold doB; rw [if_pos c0]; exact rfl
    go_enter Try.func14, Try.ntmps14
    go_wp2_with fail
    refine (add_any l B p (a.id % 12) a.runs _ h1 hl).mono ?_
    rintro e w1 ⟨rfl, h2, o2⟩
    go_wp2_with fail
    go_ret2
    exact ⟨by rw [hN.out, hB.out]; rfl, by rw [hL.out]; exact h2, hO.trans o2⟩
  · by_cases c1 : a.kind % 6 = 1
    · have hL : Hid (doL l a = setL l a.who a.runs) := by unfold doL; rw [if_neg c0, if_pos c1]; exact rfl
      have hN : Hid (doN l a = 0) := by unfold doN; rw [if_pos (.inr (.inl c1))]; exact rfl
      have hB : Hid (doB l a = hasId l a.who) := by unfold doB; rw [if_neg c0, if_pos c1]; exact rfl
      clear c0
      go_enter Try.func14, Try.ntmps14
      go_wp2_with fail
      refine (set_any l B p (a.id % 12) a.runs _ h1 hl).mono ?_
      rintro e w1 ⟨rfl, h2, o2⟩
      go_wp2_with fail
      go_ret2
      exact ⟨by rw [hN.out, hB.out]; rfl, by rw [hL.out]; exact h2, hO.trans o2⟩
    · by_cases c2 : a.kind % 6 = 2
      · have hL : Hid (doL l a = dropL l a.who) := by unfold doL; rw [if_neg c0, if_neg c1, if_pos c2]; exact rfl
        have hN : Hid (doN l a = 0) := by unfold doN; rw [if_pos (.inr (.inr (.inl c2)))]; exact rfl
        have hB : Hid (doB l a = hasId l a.who) := by unfold doB; rw [if_neg c0, if_neg c1, if_pos c2]; exact rfl
        clear c0 c1
        go_enter Try.func14, Try.ntmps14
        go_wp2_with fail
        refine (drop_any l B p (a.id % 12) _ h1 hl).mono ?_
        rintro e w1 ⟨rfl, h2, o2⟩
        go_wp2_with fail
        go_ret2
        exact ⟨by rw [hN.out, hB.out]; rfl, by rw [hL.out]; exact h2, hO.trans o2⟩
      · by_cases c3 : (plc l).length = 0
        · have hL : Hid (doL l a = l) := by unfold doL; rw [if_neg c0, if_neg c1, if_neg c2, if_pos c3]; exact rfl
          have hN : Hid (doN l a = 0) := by unfold doN; rw [if_pos (.inr (.inr (.inr c3)))]; exact rfl
          have hB : Hid (doB l a = false) := by unfold doB; rw [if_neg c0, if_neg c1, if_neg c2, c3]; exact rfl
          go_enter Try.func14, Try.ntmps14
          go_wp2_with fail
          refine (pick_none l B p a.n _ h1 hl c3).mono ?_
          rintro e w1 ⟨rfl, b2⟩
          go_wp2_with fail
          go_ret2
          exact ⟨by rw [hN.out, hB.out]; rfl, by rw [hL.out]; exact h1.below b2, hO.trans (.of_below b2)⟩
        · have hL : Hid (doL l a = pickL l a.n) := by unfold doL; rw [if_neg c0, if_neg c1, if_neg c2, if_neg c3]; exact rfl
          have hN : Hid (doN l a = (ith l (pickK l a.n)).id) := by
            unfold doN
            rw [if_neg]
            · exact rfl
            · rintro (h | h | h | h)
              · exact c0 h
              · exact c1 h
              · exact c2 h
              · exact c3 h
          have hB : Hid (doB l a = true) := by unfold doB; rw [if_neg c0, if_neg c1, if_neg c2]; exact decide_eq_true (by omega)
          go_enter Try.func14, Try.ntmps14
          go_wp2_with fail
          refine (pick_some l B p a.n M _ h1 hl (by omega) hM hag).mono ?_
          rintro e w1 ⟨rfl, h2, o2⟩
          go_wp2_with fail
          go_ret2
          exact ⟨by rw [hN.out, hB.out]; rfl, by rw [hL.out]; exact h2, hO.trans o2⟩

/-- A slice of deeds that came in. -/
def InActs (w : World) (A : Option Addr) (n cap : Nat) (xs : List Deed) : Prop :=
  xs.length = n ∧ n ≤ cap ∧ cap ≤ 9223372036854775807 ∧ (∀ i, i < n → (dth xs i).ok) ∧ (0 < n → ∃ b off, A = some ⟨b, off, none⟩ ∧ b < w.heap.size ∧ ∀ i, i < n →
    w.cell? ⟨b, off + i * 4, none⟩ = some (.int .u8 (dth xs i).kind) ∧ w.cell? ⟨b, off + i * 4 + 1, none⟩ = some (.int .u8 (dth xs i).id) ∧ w.cell? ⟨b, off + i * 4 + 2, none⟩ = some (.bool (dth xs i).runs) ∧ w.cell? ⟨b, off + i * 4 + 3, none⟩ = some (.int .i64 (dth xs i).n))

theorem acts_later {w wr : World} {b o : Nat} {x : Deed} (hb : Below w.heap.size w wr) (hg : b < w.heap.size)
    (h : w.cell? ⟨b, o, none⟩ = some (.int .u8 x.kind) ∧ w.cell? ⟨b, o + 1, none⟩ = some (.int .u8 x.id) ∧ w.cell? ⟨b, o + 2, none⟩ = some (.bool x.runs) ∧ w.cell? ⟨b, o + 3, none⟩ = some (.int .i64 x.n)) :
    wr.cell? ⟨b, o, none⟩ = some (.int .u8 x.kind) ∧ wr.cell? ⟨b, o + 1, none⟩ = some (.int .u8 x.id) ∧ wr.cell? ⟨b, o + 2, none⟩ = some (.bool x.runs) ∧ wr.cell? ⟨b, o + 3, none⟩ = some (.int .i64 x.n) :=
  ⟨(hb.cell (p := ⟨b, o, none⟩) hg).trans h.1, (hb.cell (p := ⟨b, o + 1, none⟩) hg).trans h.2.1, (hb.cell (p := ⟨b, o + 2, none⟩) hg).trans h.2.2.1, (hb.cell (p := ⟨b, o + 3, none⟩) hg).trans h.2.2.2⟩

end Go.Proofs.Ytjbjkkicfdaljaa
