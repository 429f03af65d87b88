/- Where a sign lies last: what the calls answer. -/
import Derived.Test.YtgapahmjcladlaaRk
namespace Go.Proofs.Ytgapahmjcladlaa
open Go.RowKit
set_option linter.unusedVariables false

theorem bytesIn {w : World} {a : Option Addr} {bs : List UInt8} {n : Nat} (h : Bytes w a bs) (hl : bs.length = n) : Lib.BytesIn w a n (nums bs) := fun hn => by
  subst hl
  rcases h with rfl | ⟨b, o, rfl, hc⟩
  · simp at hn
  · refine ⟨b, o, rfl, fun i hi => ?_⟩
    rw [hc i bs[i] (by simp [hi]), nums_getD bs i bs[i] (by simp [hi])]
theorem nums_inj {us vs : List UInt8} (h : nums us = nums vs) : us = vs := by
  have := congrArg Lib.bytesOf h
  rwa [nums_of, nums_of] at this

set_option maxHeartbeats 1000000 in
theorem lastIndex_any (a : Option Addr) (n cap b2 o2 cap2 : Nat) (bs : List UInt8) (x y z u : UInt8) (hl : bs.length = n) (hn : n ≤ 100000) (hcap : n ≤ cap) (hcap2 : 4 ≤ cap2) (w : World)
    (hb : Bytes w a bs) (hs : ∀ i c, [x, y, z, u][i]? = some c → w.cell? ⟨b2, o2 + i, none⟩ = some (.int .u8 (byt c))) :
    Calls Try.prog 24 #[.slice a n cap, .slice (some ⟨b2, o2, none⟩) 4 cap2] w fun e w' => (∃ r, e = .returned (.int .i64 r) ∧ LastIs bs [x, y, z, u] r) ∧ Below w.heap.size w w' := by
  have HL := Lib.hid hl; have HB := Lib.hid hb; have HS := Lib.hid hs
  rcases Nat.lt_trichotomy n 4 with h | h | h
  · have f1 : ¬ (4 : Int) = (n : Int) := by omega
    have f2 : (n : Int) < 4 := by omega
    have f3 : ((4 : Int) == (n : Int)) = false := by rw [beq_eq_false_iff_ne]; omega
    have HR : Hid (LastIs bs [x, y, z, u] (-1)) := .inl ⟨rfl, fun i ha => by have := ha.1; omega⟩
    clear hl hb hs
    go_enter Try.func24, Try.ntmps24
    go_wp2
    go_ret
    exact ⟨⟨-1, rfl, HR.out⟩, Below.refl _ _⟩
  · subst h
    have HC := Lib.hid (Try.bytes_Equal_all a (some ⟨b2, o2, none⟩) 4 cap 4 cap2 (nums bs) (nums [x, y, z, u]) w (by rw [nums_len, hl]) rfl (bytesIn hb hl) (bytesIn (.inr ⟨b2, o2, rfl, hs⟩) rfl))
    clear hb hs
    by_cases he : bs = [x, y, z, u]
    · have HR : Hid (LastIs bs [x, y, z, u] ((0 : Nat) : Int)) := .inr ⟨0, rfl, ⟨by omega, by rw [List.drop_zero, List.take_of_length_le (by omega)]; exact he⟩, fun i hi ha => by have := ha.1; omega⟩
      have hq : (Lib.bytesOf (nums bs) == Lib.bytesOf (nums [x, y, z, u])) = true := by rw [nums_of, nums_of, he]; exact beq_self_eq_true _
      rw [hq] at HC
      clear he hq hl
      go_enter Try.func24, Try.ntmps24
      go_wp2_with fail
      refine HC.out.mono ?_
      rintro e w1 ⟨rfl, rfl⟩
      go_wp2_with fail
      go_ret
      exact ⟨⟨_, rfl, HR.out⟩, Below.refl _ _⟩
    · have HR : Hid (LastIs bs [x, y, z, u] (-1)) := .inl ⟨rfl, fun i ha => by
        have h1 := ha.1
        have h0 : i = 0 := by omega
        have h2 := ha.2
        rw [h0, List.drop_zero, List.take_of_length_le (by omega)] at h2
        exact he h2⟩
      have hq : (Lib.bytesOf (nums bs) == Lib.bytesOf (nums [x, y, z, u])) = false := by rw [nums_of, nums_of, beq_eq_false_iff_ne]; exact he
      rw [hq] at HC
      clear he hq hl
      go_enter Try.func24, Try.ntmps24
      go_wp2_with fail
      refine HC.out.mono ?_
      rintro e w1 ⟨rfl, rfl⟩
      go_wp2_with fail
      go_ret
      exact ⟨⟨_, rfl, HR.out⟩, Below.refl _ _⟩
  · obtain ⟨m, rfl⟩ : ∃ m, n = m + 4 := ⟨n - 4, by omega⟩
    obtain ⟨b, o, rfl, hc⟩ : ∃ b o, a = some ⟨b, o, none⟩ ∧ ∀ i c, bs[i]? = some c → w.cell? ⟨b, o + i, none⟩ = some (.int .u8 (byt c)) := by
      rcases hb with h0 | h0
      · rw [h0] at hl; simp at hl
      · exact h0
    have HC := Lib.hid (rk_any b o m cap b2 o2 cap2 bs x y z u hl (by omega) (by omega) hcap hcap2 w hc hs)
    have f3 : ((4 : Int) == ((m + 4 : Nat) : Int)) = false := by rw [beq_eq_false_iff_ne]; omega
    have f4 : ((4 : Int) == (m : Int) + 4) = false := by rw [beq_eq_false_iff_ne]; omega
    clear hl hb hs hc HB HS HL
    go_enter Try.func24, Try.ntmps24
    go_wp2_with fail
    refine HC.out.mono ?_
    rintro e w2 ⟨⟨r, rfl, hr⟩, hb2⟩
    have HR := Lib.hid hr
    clear hr HC
    go_wp2_with fail
    go_ret
    exact ⟨⟨r, rfl, HR.out⟩, hb2⟩

theorem last_any (a : Option Addr) (n cap v : Nat) (bs : List UInt8) (hl : bs.length = n) (hn : n ≤ 100000) (hcap : n ≤ cap) (hv : v < 4294967296) (w : World) (hb : Bytes w a bs) :
    Calls Try.prog 14 #[.slice a n cap, .int .u32 v] w fun e w' => (∃ r, e = .returned (.int .i64 r) ∧ LastIs bs (leB v 4) r) ∧ Below w.heap.size w w' := by
  have HW : Hid (IntKind.i64.wrap (v : Int) = (v : Int)) := by unfold Hid; rw [IntKind.wrap_i64]; omega
  have HLT := Lib.hid (little_four v hv w)
  obtain ⟨x, y, z, u, hx⟩ := four_of (leB_len v 4)
  rw [hx] at HLT ⊢
  have HL := Lib.hid hl; have HB := Lib.hid hb
  clear hl hb hx
  go_enter Try.func14, Try.ntmps14
  go_wp2_with fail
  try rw [HW.out]
  refine HLT.out.mono ?_
  rintro e w1 ⟨rfl, hO, h1⟩
  have HC := Lib.hid (lastIndex_any a n cap w.heap.size 0 4 bs x y z u HL.out hn hcap (by omega) w1 (HB.out.below h1) (own_cells hO))
  have H1 := Lib.hid h1
  clear hO h1
  go_wp2_with fail
  refine HC.out.mono ?_
  rintro e w2 ⟨⟨r, rfl, hr⟩, h2⟩
  have HR := Lib.hid hr
  clear hr HC
  go_wp2_with fail
  go_ret
  exact ⟨⟨r, rfl, HR.out⟩, H1.out.trans (h2.mono H1.out.size)⟩
theorem LastIs.eq {bs s : List UInt8} {r q : Int} (h : LastIs bs s r) (g : LastIs bs s q) : r = q := by
  rcases h with ⟨h1, h2⟩ | ⟨k, h1, h3, h4⟩ <;> rcases g with ⟨g1, g2⟩ | ⟨l, g1, g3, g4⟩
  · rw [h1, g1]
  · exact absurd g3 (h2 l)
  · exact absurd h3 (g2 k)
  · have a1 : ¬ k < l := fun h => h4 l h g3
    have a2 : ¬ l < k := fun h => g4 k h h3
    omega
end Go.Proofs.Ytgapahmjcladlaa
