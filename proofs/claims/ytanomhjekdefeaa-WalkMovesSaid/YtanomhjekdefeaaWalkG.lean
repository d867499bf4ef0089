/- A range of few keys. -/
import Derived.Test.YtanomhjekdefeaaWalkF
namespace Go.Proofs.Ytanomhjekdefeaa
open Go.RowKit
set_option linter.unusedVariables false
attribute [local go_sem ↓] Go.wp_at_zero Go.wp_at_succ

def key1 (n : Int) : ByteArray := ⟨#[n.toNat.toUInt8]⟩
theorem conv_one (W : World) (q : Nat) (hq : q = W.heap.size) (n : Int) (h0 : 0 ≤ n) (h1 : n ≤ 255) :
    (convert 51 9 (.slice (some ⟨q, 0, none⟩) 1 1)).run Try.prog (W.alloc (.cells #[.int .u8 n] 5)) = .ok (.string (key1 n)) (W.alloc (.cells #[.int .u8 n] 5)) := by
  subst hq
  have hnew := heap_alloc_new W (.cells #[.int .u8 n] 5)
  have h9 := run_convert_bytes_back (P := Try.prog) (W.alloc (.cells #[.int .u8 n] 5)) 51 9 5 ⟨W.heap.size, 0, none⟩ 1 [n.toNat.toUInt8] Try.underlying51 Try.underlying5 Try.underlying9 (fun j hj => by
      have hj0 : j = 0 := by simpa using hj
      subst hj0
      have h8 : (n.toNat.toUInt8).toNat = n.toNat := by
        simp only [Nat.toUInt8, UInt8.toNat_ofNat']
        omega
      rw [add0, cell_of_row _ _ 0 _ _ _ hnew]
      show some (Value.int .u8 n) = some (.int .u8 (((n.toNat.toUInt8).toNat : Nat) : Int))
      rw [h8, Int.toNat_of_nonneg h0])
  exact h9

def nearR (a b : Int) (dn : Bool) : Rg := ⟨if a % 7 = 6 then nil0 else key1 (97 + a % 7), if b % 8 = 7 then nil0 else key1 (97 + b % 8), dn⟩
set_option maxHeartbeats 2000000 in
set_option maxRecDepth 100000 in
theorem near_any (a b : Int) (dn : Bool) (w : World) (ha : 0 ≤ a ∧ a ≤ 255) (hb : 0 ≤ b ∧ b ≤ 255) :
    Calls Try.prog 11 #[.int .u8 a, .int .u8 b, .bool dn] w fun e w' => e = .returned (.agg #[.string (nearR a b dn).f, .string (nearR a b dn).t, .bool (nearR a b dn).dn]) ∧ Below w.heap.size w w' := by
  have hX0 : 0 ≤ a % 7 := Int.emod_nonneg _ (by omega)
  have hX1 : a % 7 < 7 := Int.emod_lt_of_pos _ (by omega)
  have hY0 : 0 ≤ b % 8 := Int.emod_nonneg _ (by omega)
  have hY1 : b % 8 < 8 := Int.emod_lt_of_pos _ (by omega)
  have hw1 : IntKind.u8.wrap (97 + a % 7) = 97 + a % 7 := by rw [IntKind.wrap_u8]; omega
  have hw2 : IntKind.u8.wrap (97 + b % 8) = 97 + b % 8 := by rw [IntKind.wrap_u8]; omega
  have hc1 := conv_one (w.alloc (.cells #[.string ⟨#[]⟩, .string ⟨#[]⟩, .bool false] 29)) (w.heap.size + 1) (by simp) (97 + a % 7) (by omega) (by omega)
  have hc2 := conv_one ((w.alloc (.cells #[.string ⟨#[]⟩, .string ⟨#[]⟩, .bool false] 29)).alloc (.cells #[.int .u8 (97 + a % 7)] 5)) (w.heap.size + 1 + 1) (by simp) (97 + b % 8) (by omega) (by omega)
  obtain ⟨s1, hs1⟩ : ∃ s, s = key1 (97 + a % 7) := ⟨_, rfl⟩
  obtain ⟨s2, hs2⟩ : ∃ s, s = key1 (97 + b % 8) := ⟨_, rfl⟩
  rw [← hs1] at hc1
  rw [← hs2] at hc2
  have HF : Hid (nearR a b dn = ⟨if a % 7 = 6 then nil0 else s1, if b % 8 = 7 then nil0 else s2, dn⟩) := hid_mk (by rw [hs1, hs2]; rfl)
  clear hs1 hs2
  cases h1 : (a % 7 == 6) with
  | true =>
    cases h2 : (b % 8 == 7) with
    | true =>
      have e1 : a % 7 = 6 := by simpa using h1
      have e2 : b % 8 = 7 := by simpa using h2
      rw [if_pos e1, if_pos e2] at HF
      have H1 := hid_mk h1
      clear e1 e2
      go_enter Try.func11, Try.ntmps11
      go_wp2_with fail
      (try simp only [Exit.inBlock, Exit.then])
      refine bodyPost_ret (v := .agg #[.string ⟨#[]⟩, .string ⟨#[]⟩, .bool dn]) ?_ rfl ?_
      · simp [results, Try.results11, go_sem, *]
      · exact ⟨by (rw [HF.out]; try rfl), bthen (bthen (bthen (balloc _) (balloc _)) (balloc _)) (balloc _)⟩
    | false =>
      have e1 : a % 7 = 6 := by simpa using h1
      have e2 : ¬ b % 8 = 7 := by simpa using h2
      rw [if_pos e1, if_neg e2] at HF
      have H1 := hid_mk h1
      clear e1 e2
      go_enter Try.func11, Try.ntmps11
      go_wp2_with fail
      (try simp only [Exit.inBlock, Exit.then])
      refine bodyPost_ret (v := .agg #[.string ⟨#[]⟩, .string s2, .bool dn]) ?_ rfl ?_
      · simp [results, Try.results11, go_sem, *]
      · exact ⟨by (rw [HF.out]; try rfl), bthen (bthen (bthen (balloc _) (balloc _)) (balloc _)) (balloc _)⟩
  | false =>
    cases h2 : (b % 8 == 7) with
    | true =>
      have e1 : ¬ a % 7 = 6 := by simpa using h1
      have e2 : b % 8 = 7 := by simpa using h2
      rw [if_neg e1, if_pos e2] at HF
      have H1 := hid_mk h1
      clear e1 e2
      go_enter Try.func11, Try.ntmps11
      go_wp2_with fail
      (try simp only [Exit.inBlock, Exit.then])
      refine bodyPost_ret (v := .agg #[.string s1, .string ⟨#[]⟩, .bool dn]) ?_ rfl ?_
      · simp [results, Try.results11, go_sem, *]
      · exact ⟨by (rw [HF.out]; try rfl), bthen (bthen (bthen (balloc _) (balloc _)) (balloc _)) (balloc _)⟩
    | false =>
      have e1 : ¬ a % 7 = 6 := by simpa using h1
      have e2 : ¬ b % 8 = 7 := by simpa using h2
      rw [if_neg e1, if_neg e2] at HF
      have H1 := hid_mk h1
      clear e1 e2
      go_enter Try.func11, Try.ntmps11
      go_wp2_with fail
      (try simp only [Exit.inBlock, Exit.then])
      refine bodyPost_ret (v := .agg #[.string s1, .string s2, .bool dn]) ?_ rfl ?_
      · simp [results, Try.results11, go_sem, *]
      · exact ⟨by (rw [HF.out]; try rfl), bthen (bthen (bthen (balloc _) (balloc _)) (balloc _)) (balloc _)⟩

end Go.Proofs.Ytanomhjekdefeaa
