/- The inner number with bytes behind, by the table: what the call computes, for every row of bytes in memory and every number. -/
import Derived.Test.YtmdmjnehhgdjaaaBase
import Derived.Test.YtmdmjnehhgdjaaaProg
import Derived.WalkKit
import Derived.WalkSpells
import Derived.WalkLawsBesides
import Derived.Deep.QuietTactic
import Derived.BigQuiet
import Derived.Lib.Hide
namespace Go.Proofs.Ytmdmjnehhgdjaaa
open Go.RowKit Math

attribute [local go_sem] bits_xor bits_and bits_and_one bits_and_poly bits_xor_poly bits_not bits_not' signed_u32 num_shr num_half num_div256 num_neg bits_idx bits_idx' conv_byt

set_option maxHeartbeats 400000 in
theorem step_some (g b o cap : Nat) (bs : List UInt8) (hlen : bs.length ≤ 9223372036854775807) (x : B32) (w : World)
    (ht : ∀ i, i < 256 → w.cell? ⟨g, i, none⟩ = some (.int .u32 (num (tab i))))
    (hb : ∀ i c, bs[i]? = some c → w.cell? ⟨b, o + i, none⟩ = some (.int .u8 (byt c))) :
    Calls Try.prog 20 #[.pointer (some ⟨g, 0, none⟩), .int .u32 (num x), .slice (some ⟨b, o, none⟩) bs.length cap] w fun e w' => e = .returned (.int .u32 (num (upd x bs))) ∧ w = w' := by
  have HT := Lib.hid ht
  have HB := Lib.hid hb
  clear ht hb
  obtain ⟨n, hn⟩ : ∃ n, n = bs.length := ⟨_, rfl⟩
  rw [← hn] at hlen ⊢
  have HN := Lib.hid hn
  clear hn
  go_enter Try.func20, Try.ntmps20
  go_wp2
  go_loop [1, 8, 11] (fun y _ i => ∃ k : Nat, k ≤ n ∧ i = .int .i64 k ∧ y = .int .u32 (num (upd x (bs.take k)))) (fun _ _ i => n - (intOf i).toNat)
  case atStart => exact ⟨0, by omega, rfl, rfl⟩
  case round =>
    obtain ⟨k, hk, rfl, rfl⟩ := hrel
    by_cases hlt : k < n
    · obtain ⟨c, hc⟩ : ∃ c, bs[k]? = some c := ⟨bs[k]'(by have := HN.out; omega), List.getElem?_eq_getElem _⟩
      have hcell := HB.out k c hc
      have hs : upd x (bs.take (k + 1)) = feed (upd x (bs.take k)) c := by rw [List.take_add_one, hc]; exact upd_snoc _ _ _
      have HS := Lib.hid hs
      clear hs hc
      obtain ⟨y, hy⟩ : ∃ y, y = upd x (bs.take k) := ⟨_, rfl⟩
      rw [← hy] at HS ⊢
      clear hy
      have hcell2 := HT.out (idx y c) (idx_lt y c)
      have hi0 := idx_lt y c
      go_wp2
      go_round
      case rel => exact ⟨k + 1, by omega, by go_num, by rw [HS.out, feed_idx]⟩
      case measure => simp [intOf]; omega
    · go_wp2
      go_ret
      have : k = n := by omega
      subst this
      exact ⟨by rw [HN.out, List.take_length]; rfl, rfl⟩

/-- Bytes that lie in memory: none; or from an address on. -/
def Bytes (w : World) (a : Option Addr) (bs : List UInt8) : Prop :=
  bs = [] ∨ ∃ b o, a = some ⟨b, o, none⟩ ∧ ∀ i c, bs[i]? = some c → w.cell? ⟨b, o + i, none⟩ = some (.int .u8 (byt c))

theorem Bytes.below {w w' : World} {a : Option Addr} {bs : List UInt8} (h : Bytes w a bs) (hb : Below w.heap.size w w') : Bytes w' a bs := by
  rcases h with h | ⟨b, o, ha, hc⟩
  · exact .inl h
  · exact .inr ⟨b, o, ha, fun i c hi => by
      have h1 := hc i c hi
      rw [hb.cell (block_lt_of_cell h1)]; exact h1⟩
theorem Bytes.nil (w : World) (a : Option Addr) : Bytes w a [] := .inl rfl

theorem step_none (g cap : Nat) (a : Option Addr) (x : B32) (w : World) :
    Calls Try.prog 20 #[.pointer (some ⟨g, 0, none⟩), .int .u32 (num x), .slice a 0 cap] w fun e w' => e = .returned (.int .u32 (num x)) ∧ w = w' := by
  go_enter Try.func20, Try.ntmps20
  go_wp2
  refine wp_loop_rounds 1 ?_
  rw [rounds_succ]
  go_wp2
  go_ret
  exact ⟨rfl, rfl⟩

theorem step_any (g cap : Nat) (a : Option Addr) (bs : List UInt8) (hlen : bs.length ≤ 9223372036854775807) (x : B32) (w : World)
    (ht : ∀ i, i < 256 → w.cell? ⟨g, i, none⟩ = some (.int .u32 (num (tab i)))) (hb : Bytes w a bs) :
    Calls Try.prog 20 #[.pointer (some ⟨g, 0, none⟩), .int .u32 (num x), .slice a bs.length cap] w fun e w' => e = .returned (.int .u32 (num (upd x bs))) ∧ w = w' := by
  rcases hb with rfl | ⟨b, o, rfl, hc⟩
  · exact step_none g cap a x w
  · exact step_some g b o cap bs hlen x w ht hc
end Go.Proofs.Ytmdmjnehhgdjaaa
