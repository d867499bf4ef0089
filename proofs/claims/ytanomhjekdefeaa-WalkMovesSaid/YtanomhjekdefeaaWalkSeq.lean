/- What a walk gives, one behind the other: the entries of its part; a range up and down, and in two parts (plain lists). Rows of entries that grow at the end, or ahead, beside walks. -/
import Derived.Test.YtanomhjekdefeaaWalkI
import Derived.Test.YtanomhjekdefeaaTreeDc
namespace Go.Proofs.Ytanomhjekdefeaa
open Go.RowKit
set_option linter.unusedVariables false

/-- The order of a walk. -/
def ord (r : Rg) (a b : E) : Prop := if r.dn = true then lt b a else lt a b
/-- The entries of a walk's part, in its order. -/
def partE (L : List E) (r : Rg) : List E := (rowE L r).filter fun e => inR e r
/-- The mark behind k steps. -/
def mkAt (S : List E) (k : Nat) : Mk := match (S.take k).getLast? with
  | none => zM
  | some x => ⟨x, true⟩
theorem ord_irrefl (r : Rg) (a : E) : ¬ ord r a a := by unfold ord; split <;> exact lt_irrefl a
theorem ord_asymm {r : Rg} {a b : E} (h : ord r a b) : ¬ ord r b a := by
  unfold ord at h ⊢
  by_cases hd : r.dn = true
  · rw [if_pos hd] at h ⊢; exact lt_asymm h
  · rw [if_neg hd] at h ⊢; exact lt_asymm h
theorem part_srt {L : List E} (hs : Srt L) (r : Rg) : (partE L r).Pairwise (ord r) := by
  unfold partE rowE ord
  refine List.Pairwise.filter _ ?_
  cases r.dn with
  | true => simp only [if_true]; exact List.pairwise_reverse.2 hs
  | false => simp only [Bool.false_eq_true, if_false]; exact hs
theorem past_ord (r : Rg) (x e : E) : pastE r ⟨x, true⟩ e = true ↔ ord r x e := by
  unfold pastE ord
  cases r.dn <;> simp
theorem law_part (L : List E) (r : Rg) (m : Mk) : lawN L r m = fz ((partE L r).find? (pastE r m)) := by
  unfold lawN partE
  rw [List.find?_filter]
  refine congrArg fz (find_all fun x _ => ?_)
  cases inR x r <;> cases pastE r m x <;> rfl
theorem law_step {L : List E} (hs : Srt L) (r : Rg) (k : Nat) : lawN L r (mkAt (partE L r) k) = fz (partE L r)[k]? := by
  rw [law_part]
  have hS := part_srt hs r
  obtain ⟨S, hSe⟩ : ∃ S, S = partE L r := ⟨_, rfl⟩
  rw [← hSe] at hS ⊢
  clear hSe
  refine congrArg fz ?_
  have h1 : ∀ M, M = S.take k ++ S.drop k → M.find? (pastE r (mkAt S k)) = S[k]? := fun M hM => by
    rw [hM, List.find?_append]
    rcases h2 : (S.take k).getLast? with _ | x
    · have h3 : S.take k = [] := List.getLast?_eq_none_iff.1 h2
      have h4 : mkAt S k = zM := by unfold mkAt; rw [h2]
      rw [h3, h4]
      have h5 : pastE r zM = fun _ => true := by funext e; rfl
      rw [h5]
      have h6 : (S.drop k).find? (fun _ => true) = (S.drop k).head? := by cases S.drop k <;> rfl
      rw [h6, List.head?_drop]
      rfl
    · have h4 : mkAt S k = ⟨x, true⟩ := by unfold mkAt; rw [h2]
      rw [h4]
      obtain ⟨D, h3⟩ : ∃ D, S.take k = D ++ [x] := List.getLast?_eq_some_iff.1 h2
      have hP : (S.take k).Pairwise (ord r) := hS.sublist (List.take_sublist _ _)
      have h5 : (S.take k).find? (pastE r ⟨x, true⟩) = none := by
        rw [List.find?_eq_none]
        intro e he hp
        rw [past_ord] at hp
        rw [h3] at he hP
        rcases List.mem_append.1 he with h6 | h6
        · exact ord_asymm hp ((List.pairwise_append.1 hP).2.2 e h6 x (by simp))
        · have : e = x := by simpa using h6
          subst this
          exact ord_irrefl r e hp
      rw [h5]
      rcases h7 : S[k]? with _ | y
      · have h8 : S.drop k = [] := List.drop_eq_nil_of_le (List.getElem?_eq_none_iff.1 h7)
        rw [h8]
        rfl
      · obtain ⟨hk, hy⟩ := List.getElem?_eq_some_iff.1 h7
        rw [List.drop_eq_getElem_cons hk, hy, List.find?_cons]
        have hxy : ord r x y := by
          have h9 := hS
          rw [← List.take_append_drop k S, List.drop_eq_getElem_cons hk, hy] at h9
          exact (List.pairwise_append.1 h9).2.2 x (by rw [h3]; simp) y (by simp)
        rw [(past_ord r x y).2 hxy]
        rfl
  exact h1 S (List.take_append_drop k S).symm
theorem mk_step (S : List E) (k : Nat) : mkOf (mkAt S k) (fz S[k]?) = mkAt S (k + 1) := by
  rcases h : S[k]? with _ | y
  · have hk := List.getElem?_eq_none_iff.1 h
    unfold mkAt
    rw [List.take_of_length_le hk, List.take_of_length_le (by omega)]
    rfl
  · obtain ⟨hk, hy⟩ := List.getElem?_eq_some_iff.1 h
    unfold mkAt mkOf fz
    rw [List.take_succ_eq_append_getElem hk, hy, List.getLast?_concat]
    rfl
/-- The walk's k-th step: what it gives, and the mark behind it. -/
theorem walk_step {L : List E} (hs : Srt L) (hl : Low L) (r : Rg) (k : Nat) : nextE L r (mkAt (partE L r) k) = fz (partE L r)[k]? ∧ mkOf (mkAt (partE L r) k) (nextE L r (mkAt (partE L r) k)) = mkAt (partE L r) (k + 1) := by
  have h := (next_eq hs hl r (mkAt (partE L r) k)).trans (law_step hs r k)
  exact ⟨h, by rw [h]; exact mk_step _ _⟩
theorem mk_zero (S : List E) : mkAt S 0 = zM := rfl
theorem part_length (L : List E) (r : Rg) : (partE L r).length ≤ L.length := by
  unfold partE
  exact Nat.le_trans (List.length_filter_le _ _) (by unfold rowE; split <;> simp)

theorem part_up (L : List E) (r : Rg) (h : r.dn = false) : partE L r = L.filter fun e => inR e r := by
  unfold partE rowE
  rw [h]
  rfl
theorem part_down (L : List E) (r : Rg) (h : r.dn = true) : partE L r = (L.filter fun e => inR e r).reverse := by
  unfold partE rowE
  rw [h, if_pos rfl, List.filter_reverse]
theorem kc_le_trans {x a b : ByteArray} (h : a = b ∨ kc a b < 0) (hx : kc x a < 0) : kc x b < 0 := by
  rcases h with rfl | h
  · exact hx
  · exact cb_trans _ _ _ hx h
/-- A range is its two parts. -/
theorem two_parts {L : List E} (hs : Srt L) {a b c : ByteArray} (hab : a = b ∨ kc a b < 0) (hbc : b = c ∨ kc b c < 0) (hb : b ≠ nil0) (hc : c ≠ nil0) :
    partE L ⟨a, b, false⟩ ++ partE L ⟨b, c, false⟩ = partE L ⟨a, c, false⟩ := by
  rw [part_up _ _ rfl, part_up _ _ rfl, part_up _ _ rfl]
  have e1 : ∀ x, inR x ⟨a, b, false⟩ = true ↔ ¬ kc x.key a < 0 ∧ kc x.key b < 0 := fun x => by
    unfold inR behindK ahead
    simp [hb]
  have e2 : ∀ x, inR x ⟨b, c, false⟩ = true ↔ ¬ kc x.key b < 0 ∧ kc x.key c < 0 := fun x => by
    unfold inR behindK ahead
    simp [hc]
  have e3 : ∀ x, inR x ⟨a, c, false⟩ = true ↔ ¬ kc x.key a < 0 ∧ kc x.key c < 0 := fun x => by
    unfold inR behindK ahead
    simp [hc]
  refine srt_eq _ _ (List.pairwise_append.2 ⟨List.Pairwise.filter _ hs, List.Pairwise.filter _ hs, ?_⟩) (List.Pairwise.filter _ hs) ?_
  · intro x hx y hy
    have hx2 := (e1 x).1 (List.mem_filter.1 hx).2
    have hy2 := (e2 y).1 (List.mem_filter.1 hy).2
    rcases lt_tri x y with h | h | h
    · exact h
    · subst h; exact absurd hx2.2 hy2.1
    · exfalso
      rcases lt_keys h with h1 | h1
      · exact hy2.1 (by rw [h1]; exact hx2.2)
      · exact hy2.1 (cb_trans _ _ _ h1 hx2.2)
  · intro x
    rw [List.mem_append, List.mem_filter, List.mem_filter, List.mem_filter, e1, e2, e3]
    constructor
    · rintro (⟨h1, h2, h3⟩ | ⟨h1, h2, h3⟩)
      · exact ⟨h1, h2, kc_le_trans hbc h3⟩
      · exact ⟨h1, fun h4 => h2 (kc_le_trans hab h4), h3⟩
    · rintro ⟨h1, h2, h3⟩
      by_cases h4 : kc x.key b < 0
      · exact .inl ⟨h1, h2, h4⟩
      · exact .inr ⟨h1, h4, h3⟩
/-- The first k of a list, one more. -/
theorem take_get (S : List E) (k : Nat) : S.take (k + 1) = match S[k]? with
    | none => S.take k
    | some x => S.take k ++ [x] := by
  rcases h : S[k]? with _ | x
  · have hk := List.getElem?_eq_none_iff.1 h
    rw [List.take_of_length_le hk, List.take_of_length_le (by omega)]
  · obtain ⟨hk, hx⟩ := List.getElem?_eq_some_iff.1 h
    rw [List.take_succ_eq_append_getElem hk, hx]

theorem Wt.stays {B : Nat} {w w' : World} {tp : Nat} {L : List E} {F G G' : Nat → Prop} {p : Nat} {r : Rg} {m : Mk} (H : Wt B w tp L F p r m) (h : Mv G G' w w') (hF : ∀ k, F k → ¬ G k) (hp : ¬ G p) : Wt B w' tp L F p r m :=
  ⟨H.tree.other h hF, h.at_ H.wk hp, H.base, H.apart⟩
/-- One more entry behind a row. -/
theorem push_ent {B : Nat} {w : World} {A : Option Addr} {n cap : Nat} {O : List E} (h : Rw B w 34 2 (.slice A n cap) n (ecells O)) (hn : n = O.length) (hB : B ≤ w.heap.size) (x : E) (hlen : n < 100001) (q : Nat) (hq : q = w.heap.size) :
    ∃ A3 cap3 w3, (Builtin.append_ #[25, 25] 25 #[.slice A n cap, .slice (some ⟨q, 0, none⟩) 1 1]).run Try.prog (w.alloc (.cells #[.string x.key, .int .i64 x.id] 34)) = .ok (.slice A3 (n + 1) cap3) w3 ∧
      Rw B w3 34 2 (.slice A3 (n + 1) cap3) (n + 1) (ecells (O ++ [x])) ∧ Mv (own (.slice A n cap)) (own (.slice A3 (n + 1) cap3)) w w3 := by
  subst hq
  obtain ⟨i0, hi0, hz0, hzs, hzb⟩ := info_parts infoE
  obtain ⟨v3, w3, hr, R3, M3⟩ := run_app_rw (P := Try.prog) (h.below (balloc (.cells #[.string x.key, .int .i64 x.id] 34))) (by simp; omega) 25 25 i0 _ 24 Try.underlying25 hi0 hz0 hzs hzb rfl (by omega) ⟨w.heap.size, 0, none⟩ 1 1 (by omega) [.string x.key, .int .i64 x.id] rfl
    (fun j u hu => by rw [add0, cell_of_row _ _ _ _ _ _ (heap_alloc_new w _)]; simpa using hu) (by intro u hu; simp at hu; rcases hu with rfl | rfl <;> rfl) (by omega) (by omega)
  obtain ⟨A3, c3, rfl, _, _, _⟩ := R3.shape
  exact ⟨A3, c3, w3, hr, by rw [ecells_append]; exact R3, (Mv.of_below (F := own (.slice A n cap)) (balloc _)).trans M3⟩
/-- One entry ahead of a row: a new row. -/
theorem ahead_ent {B : Nat} {w : World} {v : Value} {n : Nat} {O : List E} (h : Rw B w 34 2 v n (ecells O)) (hn : n = O.length) (x : E) (hlen : n < 100001) (q : Nat) (hq : q = w.heap.size) :
    ∃ A3 cap3 w3, (Builtin.append_ #[25, 25] 25 #[.slice (some ⟨q, 0, none⟩) 1 1, v]).run Try.prog (w.alloc (.cells #[.string x.key, .int .i64 x.id] 34)) = .ok (.slice A3 (1 + n) cap3) w3 ∧
      Rw w.heap.size w3 34 2 (.slice A3 (1 + n) cap3) (1 + n) (ecells (x :: O)) ∧ Below w.heap.size w w3 := by
  subst hq
  obtain ⟨i0, hi0, hz0, hzs, hzb⟩ := info_parts infoE
  have hnew : Rw w.heap.size (w.alloc (.cells #[.string x.key, .int .i64 x.id] 34)) 34 2 (.slice (some ⟨w.heap.size, 0, none⟩) 1 1) 1 [.string x.key, .int .i64 x.id] :=
    ⟨rfl, .inr ⟨w.heap.size, 1, _, rfl, Nat.le_refl _, heap_alloc_new w _, Nat.le_refl _, by simp only [maxLen]; omega, by simp, rfl⟩⟩
  obtain ⟨v3, w3, hr, R3, M3⟩ := run_app_rows (P := Try.prog) hnew (h.below (balloc _)) (by simp) 25 25 i0 _ 24 Try.underlying25 hi0 hz0 hzs hzb rfl (by omega) (ecells_one O) (by omega) (by omega)
  obtain ⟨A3, c3, rfl, _, _, _⟩ := R3.shape
  exact ⟨A3, c3, w3, hr, R3, (balloc' (Nat.le_refl _)).trans (M3.below (fun k hk => by have e9 : w.heap.size = k := by simpa [own, Value.ownBlock] using hk
                                                                                       omega) (by simp))⟩

end Go.Proofs.Ytanomhjekdefeaa
