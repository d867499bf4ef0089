/- A tree: made, added to. -/
import Derived.Test.YtaoamkkgiiiejaaTreeH
namespace Go.Proofs.Ytaoamkkgiiiejaa
open Go.RowKit
set_option linter.unusedVariables false
attribute [local go_sem ↓] Go.wp_at_zero Go.wp_at_succ

/-- A tree in memory, with its height, its nodes, and who owns which block. -/
structure TreeAt (B : Nat) (w : World) (p h : Nat) (t : T) (ω : Ow) : Prop where
  blk : w.heap[p]? = some (.cells #[.pointer (some ⟨t.a, 0, none⟩), .int .i64 ((ents h t).length : Nat)] 58 (0, 0))
  base : B ≤ p
  free : ω p = none
  good : Good h t
  four : t.l.length ≤ 4
  one : h ≠ 0 → 1 ≤ t.l.length
  srt : Srt (ents h t)
  tr : Tr h w ω t
  ok : Okw B w ω
def Foots (p : Nat) (ω : Ow) (k : Nat) : Prop := k = p ∨ ω k ≠ none
/-- A tree whose entries are L, in order. -/
def Tree (B : Nat) (w : World) (p : Nat) (L : List E) (F : Nat → Prop) : Prop := ∃ h t ω, TreeAt B w p h t ω ∧ L = ents h t ∧ F = Foots p ω

theorem TreeAt.lt {B : Nat} {w : World} {p h : Nat} {t : T} {ω : Ow} (H : TreeAt B w p h t ω) : p < w.heap.size := lt_of_block H.blk
theorem Tree.foot {B : Nat} {w : World} {p : Nat} {L : List E} {F : Nat → Prop} (H : Tree B w p L F) (k : Nat) (hk : F k) : B ≤ k ∧ k < w.heap.size := by
  obtain ⟨h, t, ω, H, rfl, rfl⟩ := H
  rcases hk with rfl | hk
  · exact ⟨H.base, H.lt⟩
  · rcases hw : ω k with _ | a
    · exact absurd hw hk
    · have := H.ok k a hw; omega
theorem Tree.size {B : Nat} {w : World} {p : Nat} {L : List E} {F : Nat → Prop} (H : Tree B w p L F) : B ≤ w.heap.size ∧ p < w.heap.size := by
  obtain ⟨h, t, ω, H, rfl, rfl⟩ := H
  have := H.lt
  have := H.base
  omega
theorem Tree.srt {B : Nat} {w : World} {p : Nat} {L : List E} {F : Nat → Prop} (H : Tree B w p L F) : Srt L := by
  obtain ⟨h, t, ω, H, rfl, rfl⟩ := H
  exact H.srt
theorem Stp.mv {S : Nat → Prop} {w w' : World} {ω ω' : Ow} {p : Nat} (s : Stp S w ω w' ω') : Mv (Foots p ω) (Foots p ω') w w' :=
  ⟨s.os, s.tape, s.output, s.size, fun k hk hc => s.block k hk fun a ha => absurd (fun h => by rw [h] at ha; cases ha) (fun h => hc (.inr h)), fun k hk => by
    rcases hk with rfl | hk
    · exact .inl (.inl rfl)
    · rcases Nat.lt_or_ge k w.heap.size with h1 | h1
      · exact .inl (.inr (by rw [← s.same k h1]; exact hk))
      · exact .inr h1⟩
theorem Tree.moved {B : Nat} {w w' : World} {p : Nat} {L : List E} {F F' : Nat → Prop} (H : Tree B w p L F) (hm : Mv F F' w w') : Below B w w' := hm.below (fun k hk => (H.foot k hk).1) H.size.1
/-- A tree stays where its blocks do. -/
theorem Tree.stays {B : Nat} {w w' : World} {p : Nat} {L : List E} {F : Nat → Prop} (H : Tree B w p L F) (hs : w.heap.size ≤ w'.heap.size) (ho : w'.os = w.os) (htp : w'.tape = w.tape) (hou : w'.output = w.output) (hb : ∀ k, F k → w'.heap[k]? = w.heap[k]?) : Tree B w' p L F := by
  obtain ⟨h, t, ω, H, rfl, rfl⟩ := H
  refine ⟨h, t, ω, ⟨(hb p (.inl rfl)).trans H.blk, H.base, H.free, H.good, H.four, H.one, H.srt, ⟨fun s hs' => ?_, H.tr.nodup⟩, fun b a hb' => ?_⟩, rfl, rfl⟩
  · obtain ⟨v, u, N⟩ := H.tr.laid s hs'
    have key : ∀ b, ω b = some s.a → w'.heap[b]? = w.heap[b]? := fun b hb' => hb b (.inr (by rw [hb']; simp))
    exact ⟨v, u, (key _ N.own0).trans N.blk, N.own0, N.lst.stays fun k hk => key k (N.ownv k hk), N.ownv, N.kds.stays fun k hk => key k (N.ownu k hk), N.ownu⟩
  · have := H.ok b a hb'; omega
theorem Tree.other {B : Nat} {w w' : World} {p : Nat} {L : List E} {F H' H'' : Nat → Prop} (H : Tree B w p L F) (hm : Mv H' H'' w w') (ha : ∀ k, F k → ¬ H' k) : Tree B w' p L F :=
  H.stays hm.size hm.os hm.tape hm.output fun k hk => hm.block k (H.foot k hk).2 (ha k hk)
theorem Tree.below {B : Nat} {w w' : World} {p : Nat} {L : List E} {F : Nat → Prop} (H : Tree B w p L F) (hb : Below w.heap.size w w') : Tree B w' p L F :=
  H.stays hb.size hb.os hb.tape hb.output fun k hk => hb.block k (H.foot k hk).2

theorem new_any (w : World) : Calls Try.prog 21 #[] w fun r w' => ∃ p F, r = .returned (.pointer (some ⟨p, 0, none⟩)) ∧ Tree w.heap.size w' p [] F ∧ Below w.heap.size w w' := by
  go_enter Try.func21, Try.ntmps21
  go_wp2_with fail
  go_ret
  have hok : Okw w.heap.size w (fun _ => none) := fun b a h => by cases h
  obtain ⟨ω, hn, s, ok⟩ := Nd.fresh (S := fun _ => False) (l := []) hok (Nat.le_refl _) (Below.refl w.heap.size w) (v := .slice none 0 0) (Rw.nil _ _ _ _)
  have hfree : ω (w.heap.size + 1) = none := ok.none (by simp)
  refine ⟨w.heap.size + 1, Foots (w.heap.size + 1) ω, rfl, ⟨0, .node w.heap.size [] [], ω, ⟨?_, by omega, hfree, rfl, by simp [T.l], fun h => absurd rfl h, List.Pairwise.nil, ⟨fun q hq => ?_, by simp [addrs, subs]⟩, ok.below (balloc _)⟩, rfl, rfl⟩, bthen (balloc _) (balloc _)⟩
  · have h9 := heap_alloc_new (w.alloc (.cells #[.slice none 0 0, .slice none 0 0] 61)) (.cells #[.pointer (some ⟨w.heap.size, 0, none⟩), .int .i64 0] 58)
    rw [World.size_alloc] at h9
    exact h9
  · have e9 : q = .node w.heap.size [] [] := by simpa [subs] using hq
    subst e9
    exact ⟨_, _, hn.below ok (balloc _)⟩

end Go.Proofs.Ytaoamkkgiiiejaa
