/- Parts of bytes, and the numbers that they tell: what the calls compute. -/
import Derived.Test.YtgapahmjcladlaaSame
namespace Go.Proofs.Ytgapahmjcladlaa
open Go.RowKit
set_option linter.unusedVariables false

/-- The number of bytes, the lowest first. -/
def leV : List UInt8 → Nat
  | [] => 0
  | c :: r => c.toNat + 256 * leV r
/-- They are all there. -/
def fits (n : Nat) (p k : Int) : Prop := 0 ≤ p ∧ p ≤ n ∧ 0 ≤ k ∧ k ≤ n - p
instance (n : Nat) (p k : Int) : Decidable (fits n p k) := inferInstanceAs (Decidable (_ ∧ _))

theorem part_no (a : Option Addr) (n cap : Nat) (p k : Int) (hn : n ≤ 1099511627776) (h : ¬ fits n p k) (w : World) :
    Calls Try.prog 26 #[.slice a n cap, .int .i64 p, .int .i64 k] w fun e w' => e = .returned (.tuple #[.slice none 0 0, .bool false]) ∧ w' = w := by
  have HH := Lib.hid h
  clear h
  by_cases h1 : p < 0
  · go_enter Try.func26, Try.ntmps26
    go_wp2
    go_ret2
    exact ⟨rfl, rfl⟩
  by_cases h2 : (n : Int) < p
  · go_enter Try.func26, Try.ntmps26
    go_wp2
    go_ret2
    exact ⟨rfl, rfl⟩
  by_cases h3 : k < 0
  · go_enter Try.func26, Try.ntmps26
    go_wp2
    go_ret2
    exact ⟨rfl, rfl⟩
  have h4 : (n : Int) - p < k := by
    have := HH.out; unfold fits at this; omega
  go_enter Try.func26, Try.ntmps26
  go_wp2
  go_ret2
  exact ⟨rfl, rfl⟩
/-- A part of bytes, as a value. -/
def Part (w : World) (v : Value) (bs : List UInt8) (k : Nat) : Prop := ∃ ad c, v = .slice ad k c ∧ bs.length = k ∧ k ≤ c ∧ (ad = none → c = 0) ∧ Bytes w ad bs
theorem Part.below {w w' : World} {v : Value} {bs : List UInt8} {k : Nat} (h : Part w v bs k) (hb : Below w.heap.size w w') : Part w' v bs k := by
  obtain ⟨ad, c, h1, h2, h3, h4, h5⟩ := h
  exact ⟨ad, c, h1, h2, h3, h4, h5.below hb⟩
theorem part_yes (a : Option Addr) (n cap p k : Nat) (bs : List UInt8) (hl : bs.length = n) (hn : n ≤ 1099511627776) (hcap : n ≤ cap) (hnil : a = none → n = 0 ∧ cap = 0) (h : p + k ≤ n) (w : World) (hb : Bytes w a bs) :
    Calls Try.prog 26 #[.slice a n cap, .int .i64 p, .int .i64 k] w fun e w' => (∃ v, e = .returned (.tuple #[v, .bool true]) ∧ Part w v ((bs.drop p).take k) k) ∧ w' = w := by
  have h1 : ¬ (p : Int) < 0 := by omega
  have h2 : ¬ (n : Int) < (p : Int) := by omega
  have h3 : ¬ (k : Int) < 0 := by omega
  have h4 : ¬ (n : Int) - (p : Int) < (k : Int) := by omega
  have HL := Lib.hid hl; have HB := Lib.hid hb; have HN := Lib.hid hnil
  have hlen : Hid (((bs.drop p).take k).length = k) := by unfold Hid; rw [List.length_take, List.length_drop, hl]; omega
  clear hl hb hnil
  cases a with
  | none =>
    obtain ⟨e1, e2⟩ := HN.out rfl
    subst e1; subst e2
    have hp : p = 0 := by omega
    have hk : k = 0 := by omega
    subst hp; subst hk
    go_enter Try.func26, Try.ntmps26
    go_wp2
    go_ret2
    exact ⟨⟨_, rfl, none, 0, rfl, hlen.out, Nat.le_refl _, fun _ => rfl, .inl (by simp)⟩, rfl⟩
  | some ad =>
    rcases HB.out with hnb | ⟨b, o, had, hc⟩
    · have hn0 : n = 0 := by have := HL.out; rw [hnb] at this; simpa using this.symm
      have hp : p = 0 := by omega
      have hk : k = 0 := by omega
      subst hn0; subst hp; subst hk
      go_enter Try.func26, Try.ntmps26
      go_wp2
      all_goals
        go_ret2
        exact ⟨⟨_, rfl, _, _, rfl, hlen.out, Nat.zero_le _, fun h => by simp at h, .inl (by simp)⟩, rfl⟩
    · cases had
      have HC := Lib.hid hc
      clear hc
      by_cases hcp : cap = p
      · have hk : k = 0 := by omega
        have hpn : p = n := by omega
        subst hk
        subst hcp
        subst hpn
        go_enter Try.func26, Try.ntmps26
        go_wp2
        go_ret2
        exact ⟨⟨_, rfl, _, _, rfl, hlen.out, Nat.zero_le _, fun h => by simp at h, .inl (by simp)⟩, rfl⟩
      · have hcp2 : ¬ cap - p = 0 := by omega
        go_enter Try.func26, Try.ntmps26
        go_wp2
        go_ret2
        exact ⟨⟨_, rfl, _, _, rfl, hlen.out, by omega, fun h => by simp at h, (Bytes.drop HC.out p).take k⟩, rfl⟩
end Go.Proofs.Ytgapahmjcladlaa
