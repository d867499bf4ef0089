/- Deeds that came in, opened: each with its bytes. -/
import Derived.Test.YtlehgmfpblifkaaDoorOfV
import Derived.Test.YtlehgmfpblifkaaDoorStructs
namespace Go.Proofs.YtlehgmfpblifkaaDoor
open Go.RowKit Go.ChangeShapes Go.WideShapes Go.Deep
set_option linter.unusedVariables false

/-- A slice of bytes that came in. -/
theorem bytes_open {H : Type} {enc : TypeId × Value → H} {w : World} {base : Nat} {spare : Nat → Bool} {held : Bool} {fuel : Nat} {v : Value} {x : DataW H × List MemPlace}
    (h : DataW.trod enc Tryd.prog w base spare held fuel 26 [v] = some x) : ∃ A n cap zs, v = .slice A n cap ∧ Bytes w.heap.size w A n cap zs := by
  rcases open_ints Tryd.underlying26 Tryd.underlying5 (by kernel_rfl) h with ⟨hcs, _⟩ | ⟨ad, l, c, zs, hcs, _, hl, hm, hz, _, hcell, hwz⟩
  · simp at hcs
    exact ⟨none, 0, 0, [], hcs, Bytes.none_⟩
  · simp at hcs
    have hzl : l ≤ zs.length := by rw [hz]; split <;> omega
    refine ⟨some ad, l, c, zs.take l, hcs, by rw [List.length_take]; omega, hl, by simp only [maxLen] at hm; omega, fun h0 => ?_, fun z hz' => wf_u8 (hwz z (List.mem_of_mem_take hz'))⟩
    obtain ⟨b, off, spot⟩ := ad
    have h1 := hcell 0 (by omega)
    have hspot : spot = none := by simpa [Addr.add] using World.cell?_spot h1
    subst hspot
    refine ⟨b, off, rfl, World.block_lt_of_cell? w _ (by simpa [Addr.add] using h1), fun i hi => ?_⟩
    have h2 := hcell i (by omega)
    rw [Addr.add_lit] at h2
    rw [h2, List.getD_eq_getElem?_getD, List.getD_eq_getElem?_getD, List.getElem?_take, if_pos hi]

structure A7 where
  kind : Int
  id : Int
  A : Option Addr
  n : Nat
  cap : Nat
  zs : List Int
def A7.ok (w : World) (a : A7) : Prop := (0 ≤ a.kind ∧ a.kind ≤ 255) ∧ (0 ≤ a.id ∧ a.id ≤ 255) ∧ Bytes w.heap.size w a.A a.n a.cap a.zs
def a7 (l : List A7) (i : Nat) : A7 := l.getD i ⟨0, 0, none, 0, 0, []⟩
/-- A slice of deeds. -/
def InA7 (w : World) (A : Option Addr) (n cap : Nat) (xs : List A7) : Prop :=
  xs.length = n ∧ n ≤ cap ∧ cap ≤ 9223372036854775807 ∧ (∀ i, i < n → (a7 xs i).ok w) ∧ (0 < n → ∃ b off, A = some ⟨b, off, none⟩ ∧ b < w.heap.size ∧ ∀ i, i < n → w.cell? ⟨b, off + i * 3, none⟩ = some (.int .u8 (a7 xs i).kind) ∧ w.cell? ⟨b, off + i * 3 + 1, none⟩ = some (.int .u8 (a7 xs i).id) ∧ w.cell? ⟨b, off + i * 3 + 2, none⟩ = some (.slice (a7 xs i).A (a7 xs i).n (a7 xs i).cap))
theorem choose_lt7 {n : Nat} {p : Nat → A7 → Prop} (h : ∀ i, i < n → ∃ x, p i x) : ∃ f : Nat → A7, ∀ i, i < n → p i (f i) := by
  classical
  refine ⟨fun i => if hi : i < n then (h i hi).choose else ⟨0, 0, none, 0, 0, []⟩, fun i hi => ?_⟩
  show p i (if hi : i < n then (h i hi).choose else ⟨0, 0, none, 0, 0, []⟩)
  rw [dif_pos hi]
  exact (h i hi).choose_spec

theorem a7_open {H : Type} {enc : TypeId × Value → H} {w : World} {base : Nat} {spare : Nat → Bool} {held : Bool} {fuel : Nat} {a : Option Addr} {len cap : Nat} {x : DataW H × List MemPlace}
    (h : DataW.trod enc Tryd.prog w base spare held fuel 22 [.slice a len cap] = some x) : ∃ xs, InA7 w a len cap xs := by
  obtain ⟨hl, hm, hx⟩ := in_structs Tryd.underlying22 Tryd.underlying28 (by kernel_rfl) (by kernel_rfl) (by decide) h
  have hm2 : cap ≤ 9223372036854775807 := by simp only [maxLen] at hm; omega
  rcases Nat.eq_zero_or_pos len with h0 | h0
  · subst h0
    exact ⟨[], rfl, hl, hm2, fun i hi => absurd hi (by omega), fun h => absurd h (by omega)⟩
  · obtain ⟨b, off, rfl, hb, hc⟩ := hx h0
    obtain ⟨f, hf⟩ := choose_lt7 (n := len) (p := fun i d => d.ok w ∧ w.cell? ⟨b, off + i * 3, none⟩ = some (.int .u8 d.kind) ∧ w.cell? ⟨b, off + i * 3 + 1, none⟩ = some (.int .u8 d.id) ∧ w.cell? ⟨b, off + i * 3 + 2, none⟩ = some (.slice d.A d.n d.cap)) (fun i hi => by
      obtain ⟨v0, y0, n0, c0, t0⟩ := hc i hi 0 _ rfl
      obtain ⟨v1, y1, n1, c1, t1⟩ := hc i hi 1 _ rfl
      obtain ⟨v2, y2, n2, c2, t2⟩ := hc i hi 2 _ rfl
      obtain ⟨k, e0, _, hk⟩ := DataW.trod_int Tryd.underlying5 t0
      obtain ⟨y, e1, _, hy⟩ := DataW.trod_int Tryd.underlying5 t1
      obtain ⟨A, n, cp, zs, rfl, hB⟩ := bytes_open t2
      simp only [List.cons.injEq, and_true] at e0 e1
      subst e0 e1
      exact ⟨⟨k, y, A, n, cp, zs⟩, ⟨wf_u8 hk, wf_u8 hy, hB⟩, c0, c1, c2⟩)
    have hd : ∀ i, i < len → a7 ((List.range len).map f) i = f i := by
      intro i hi
      unfold a7
      rw [List.getD_eq_getElem?_getD, List.getElem?_eq_getElem (by simpa using hi)]
      simp
    refine ⟨(List.range len).map f, by simp, hl, hm2, fun i hi => by rw [hd i hi]; exact (hf i hi).1, fun _ => ⟨b, off, rfl, hb, fun i hi => by rw [hd i hi]; exact (hf i hi).2⟩⟩

end Go.Proofs.YtlehgmfpblifkaaDoor
