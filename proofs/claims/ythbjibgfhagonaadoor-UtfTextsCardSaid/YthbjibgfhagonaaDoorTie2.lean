/- The reference's sign at a place is the program's: plain, and the call for all bytes and places. -/
import Derived.Test.YthbjibgfhagonaaDoorRefN
namespace Go.Proofs.YthbjibgfhagonaaDoor
open Go.RowKit
set_option linter.unusedVariables false

def Cls (m : Nat) (v0 : Int) (c0 : UInt8) : Prop :=
  (m = 1 ∧ byt c0 < 128 ∧ v0 = byt c0) ∨ (m = 2 ∧ 192 ≤ byt c0 ∧ byt c0 < 224 ∧ v0 = byt c0 - 192) ∨ (m = 3 ∧ 224 ≤ byt c0 ∧ byt c0 < 240 ∧ v0 = byt c0 - 224) ∨ (m = 4 ∧ 240 ≤ byt c0 ∧ v0 = byt c0 - 240)

theorem refR_of {r v0 : Int} {m : Nat} {l rest : List UInt8} {c0 : UInt8} (hv : Lib.validRune r = true) (hl : l = encB r ++ rest) (h0 : l[0]? = some c0) (hc : Cls m v0 c0) : refR m v0 l = (r, (m : Int)) := by
  have key : ∀ xs : List UInt8, encB r = xs → xs.length = m → vfold v0 ((l.drop 1).take (m - 1)) = r → refR m v0 l = (r, (m : Int)) := fun xs e1 e2 e3 => by
    unfold refR
    rw [e3, if_neg (by rw [hl, List.length_append, e1, e2]; omega), if_pos ⟨hv, by rw [e1, e2], by rw [hl, List.take_left' (by rw [e1, e2])]⟩]
  unfold Cls at hc
  cases form_of hv with
  | one h e =>
    obtain ⟨a, e, ea⟩ := e
    rw [e] at hl
    have : a = c0 := by rw [hl] at h0; exact Option.some.inj h0
    subst this
    have hm : m = 1 ∧ v0 = byt a := by omega
    obtain ⟨rfl, rfl⟩ := hm
    exact key [a] e rfl (by rw [hl]; show byt a = r; exact ea)
  | two h e =>
    obtain ⟨a, b, e, ea, eb⟩ := e
    rw [e] at hl
    have : a = c0 := by rw [hl] at h0; exact Option.some.inj h0
    subst this
    have hm : m = 2 ∧ v0 = byt a - 192 := by omega
    obtain ⟨rfl, rfl⟩ := hm
    exact key [a, b] e rfl (by rw [hl]; show (byt a - 192) * 64 + byt b % 64 = r; omega)
  | three h e =>
    obtain ⟨a, b, c, e, ea, eb, ec⟩ := e
    rw [e] at hl
    have : a = c0 := by rw [hl] at h0; exact Option.some.inj h0
    subst this
    have hm : m = 3 ∧ v0 = byt a - 224 := by omega
    obtain ⟨rfl, rfl⟩ := hm
    exact key [a, b, c] e rfl (by rw [hl]; show ((byt a - 224) * 64 + byt b % 64) * 64 + byt c % 64 = r; omega)
  | four h e =>
    obtain ⟨a, b, c, d, e, ea, eb, ec, ed⟩ := e
    rw [e] at hl
    have : a = c0 := by rw [hl] at h0; exact Option.some.inj h0
    subst this
    have hm : m = 4 ∧ v0 = byt a - 240 := by omega
    obtain ⟨rfl, rfl⟩ := hm
    exact key [a, b, c, d] e rfl (by rw [hl]; show (((byt a - 240) * 64 + byt b % 64) * 64 + byt c % 64) * 64 + byt d % 64 = r; omega)

set_option maxHeartbeats 2000000 in
/-- A sign that is told stands there. -/
theorem dec_some {l : List UInt8} (hl : l ≠ []) : decB l = (65533, 1) ∨ ∃ r rest, Lib.validRune r = true ∧ l = encB r ++ rest := by
  match l, hl with
  | a :: t, _ =>
    have a0 := byt_nonneg a; have a1 := byt_lt a
    have eN : (((a :: t).length : Nat) : Int) = (t.length : Int) + 1 := by simp
    unfold decB dec
    rw [eN]
    simp only [List.getElem?_cons_zero, List.getElem?_cons_succ, Option.getD_some]
    rw [if_neg (by omega)]
    split
    · refine .inr ⟨byt a, t, (valid_iff _).2 (by omega), ?_⟩
      have hv := (valid_iff (byt a)).2 (by omega)
      cases form_of hv with
      | one h e => obtain ⟨a', e, ea⟩ := e; rw [e, byt_inj ea]; rfl
      | two h e => omega
      | three h e => omega
      | four h e => omega
    split
    · exact .inl rfl
    split
    · split
      · exact .inl rfl
      · next h1 h2 h3 h4 =>
        match t, h4 with
        | [], h4 => simp at h4
        | b :: t, h4 =>
          simp only [List.getElem?_cons_zero, Option.getD_some] at h4
          have hv := (valid_iff (byt a % 32 * 64 + byt b % 64)).2 (by omega)
          refine .inr ⟨_, t, hv, ?_⟩
          cases form_of hv with
          | one h e => omega
          | two h e => obtain ⟨a', b', e, ea, eb⟩ := e; rw [e, byt_inj (a := a') (b := a) (by omega), byt_inj (a := b') (b := b) (by omega)]; rfl
          | three h e => omega
          | four h e => omega
    split
    · split
      · exact .inl rfl
      · next h1 h2 h3 h4 h5 =>
        match t, h5 with
        | [], h5 => simp at h5
        | [b], h5 => simp at h5
        | b :: c :: t, h5 =>
          simp only [List.getElem?_cons_zero, List.getElem?_cons_succ, Option.getD_some] at h5
          unfold lo3 hi3 at h5
          have hv := (valid_iff (byt a % 16 * 4096 + byt b % 64 * 64 + byt c % 64)).2 (by split at h5 <;> split at h5 <;> omega)
          refine .inr ⟨_, t, hv, ?_⟩
          cases form_of hv with
          | one h e => split at h5 <;> split at h5 <;> omega
          | two h e => split at h5 <;> split at h5 <;> omega
          | three h e =>
            obtain ⟨a', b', c', e, ea, eb, ec⟩ := e
            have q1 : byt a' = byt a := by split at h5 <;> split at h5 <;> omega
            have q2 : byt b' = byt b := by split at h5 <;> split at h5 <;> omega
            have q3 : byt c' = byt c := by split at h5 <;> split at h5 <;> omega
            rw [e, byt_inj q1, byt_inj q2, byt_inj q3]; rfl
          | four h e => split at h5 <;> split at h5 <;> omega
    split
    · exact .inl rfl
    split
    · exact .inl rfl
    · next h1 h2 h3 h4 h5 h6 =>
      match t, h6 with
      | [], h6 => simp at h6
      | [b], h6 => simp at h6
      | [b, c], h6 => simp at h6
      | b :: c :: d :: t, h6 =>
        simp only [List.getElem?_cons_zero, List.getElem?_cons_succ, Option.getD_some] at h6
        unfold lo4 hi4 at h6
        have hv := (valid_iff (byt a % 8 * 262144 + byt b % 64 * 4096 + byt c % 64 * 64 + byt d % 64)).2 (by split at h6 <;> split at h6 <;> omega)
        refine .inr ⟨_, t, hv, ?_⟩
        cases form_of hv with
        | one h e => split at h6 <;> split at h6 <;> omega
        | two h e => split at h6 <;> split at h6 <;> omega
        | three h e => split at h6 <;> split at h6 <;> omega
        | four h e =>
          obtain ⟨a', b', c', d', e, ea, eb, ec, ed⟩ := e
          have q1 : byt a' = byt a := by split at h6 <;> split at h6 <;> omega
          have q2 : byt b' = byt b := by split at h6 <;> split at h6 <;> omega
          have q3 : byt c' = byt c := by split at h6 <;> split at h6 <;> omega
          have q4 : byt d' = byt d := by split at h6 <;> split at h6 <;> omega
          rw [e, byt_inj q1, byt_inj q2, byt_inj q3, byt_inj q4]; rfl

theorem next_none {bs : List UInt8} {k : Nat} (h : ¬ ∃ r rest, Lib.validRune r = true ∧ bs.drop k = encB r ++ rest) : nextP bs k = (0, 0) := by
  unfold nextP
  split
  · rfl
  · next h1 =>
    rw [Int.toNat_natCast]
    rcases dec_some (l := bs.drop k) (by intro e; have := congrArg List.length e; simp only [List.length_drop, List.length_nil] at this; omega) with h2 | h2
    · rw [h2, if_pos ⟨rfl, by simp⟩]
    · exact absurd h2 h

theorem ref_tie {bs : List UInt8} {k m : Nat} {v0 : Int} {c0 : UInt8} (h0 : bs[k]? = some c0) (hc : Cls m v0 c0) : refR m v0 (bs.drop k) = nextP bs k := by
  have h0' : (bs.drop k)[0]? = some c0 := by rw [List.getElem?_drop]; exact h0
  by_cases hx : ∃ r rest, Lib.validRune r = true ∧ bs.drop k = encB r ++ rest
  · obtain ⟨r, rest, hv, hl⟩ := hx
    rw [next_full hv hl]
    have h1 := refR_of hv hl h0' hc
    rw [h1]
    unfold refR at h1
    split at h1
    · have := congrArg Prod.snd h1; simp only at this; unfold Cls at hc; omega
    · split at h1
      · next h3 h4 =>
        have := congrArg Prod.fst h1
        simp only at this
        rw [this] at h4
        rw [h4.2.1]
      · have := congrArg Prod.snd h1; simp only at this; unfold Cls at hc; omega
  · rw [next_none hx]
    unfold refR
    split
    · rfl
    · split
      · next h3 h4 =>
        exact absurd ⟨_, (bs.drop k).drop m, h4.1, by rw [← h4.2.2, List.take_append_drop]⟩ hx
      · rfl
theorem next_mid {bs : List UInt8} {k : Nat} {c0 : UInt8} (h0 : bs[k]? = some c0) (h1 : 128 ≤ byt c0) (h2 : byt c0 < 192) : nextP bs k = (0, 0) := by
  refine next_none ?_
  rintro ⟨r, rest, hv, hl⟩
  have h0' : (bs.drop k)[0]? = some c0 := by rw [List.getElem?_drop]; exact h0
  cases form_of hv with
  | one h e => obtain ⟨a, e, ea⟩ := e; rw [hl, e] at h0'; have : a = c0 := Option.some.inj h0'; subst this; omega
  | two h e => obtain ⟨a, b, e, ea, eb⟩ := e; rw [hl, e] at h0'; have : a = c0 := Option.some.inj h0'; subst this; omega
  | three h e => obtain ⟨a, b, c, e, ea, eb⟩ := e; rw [hl, e] at h0'; have : a = c0 := Option.some.inj h0'; subst this; omega
  | four h e => obtain ⟨a, b, c, d, e, ea, eb⟩ := e; rw [hl, e] at h0'; have : a = c0 := Option.some.inj h0'; subst this; omega

theorem refNext_out (a : Option Addr) (n cap : Nat) (k : Int) (w : World) (hn : n ≤ 1000000) (h : k < 0 ∨ 0 ≤ k ∧ (n : Int) ≤ k) :
    Calls Tryd.prog 14 #[.slice a n cap, .int .i64 k] w fun e w' => e = .returned (.tuple #[.int .i64 0, .int .i64 0]) ∧ Below w.heap.size w w' := by
  rcases h with h | ⟨h, h1⟩
  all_goals
    go_enter Tryd.func14, Tryd.ntmps14
    go_wp2
    go_ret2
    exact ⟨rfl, Below.refl _ _⟩
theorem refNext_mid (b o n cap k : Nat) (z : Int) (w : World) (hn : n ≤ 1000000) (hk : k < n) (h1 : 128 ≤ z) (h2 : z < 192) (hc : w.cell? ⟨b, o + k, none⟩ = some (.int .u8 z)) :
    Calls Tryd.prog 14 #[.slice (some ⟨b, o, none⟩) n cap, .int .i64 k] w fun e w' => e = .returned (.tuple #[.int .i64 0, .int .i64 0]) ∧ Below w.heap.size w w' := by
  go_enter Tryd.func14, Tryd.ntmps14
  go_wp2
  go_ret2
  exact ⟨rfl, Below.refl _ _⟩

theorem refNext_any (a : Option Addr) (n cap : Nat) (k : Int) (bs : List UInt8) (w : World) (hl : bs.length = n) (hn : n ≤ 1000000) (hb : Bytes w a bs) :
    Calls Tryd.prog 14 #[.slice a n cap, .int .i64 k] w fun e w' => e = .returned (.tuple #[.int .i64 (nextP bs k).1, .int .i64 (nextP bs k).2]) ∧ Below w.heap.size w w' := by
  by_cases h : k < 0 ∨ (n : Int) ≤ k
  · have e : nextP bs k = (0, 0) := by unfold nextP; rw [if_pos (by omega)]
    rw [e]
    exact refNext_out a n cap k w hn (by omega)
  · obtain ⟨m, rfl⟩ := Int.eq_ofNat_of_zero_le (by omega : 0 ≤ k)
    have hm : m < n := by omega
    rcases hb with rfl | ⟨b, o, rfl, hc⟩
    · simp at hl; omega
    · obtain ⟨c0, h0⟩ := at_some (us := bs) (k := m) (by rw [hl]; exact hm)
      have hlo := byt_nonneg c0; have hhi := byt_lt c0
      by_cases z1 : byt c0 < 128
      · rw [← ref_tie h0 (m := 1) (v0 := byt c0) (.inl ⟨rfl, z1, rfl⟩)]
        exact refNext_1 b o n cap m bs c0 w hl hn hm h0 z1 hc
      by_cases z2 : byt c0 < 192
      · rw [next_mid h0 (by omega) z2]
        exact refNext_mid b o n cap m (byt c0) w hn hm (by omega) z2 (hc m c0 h0)
      by_cases z3 : byt c0 < 224
      · rw [← ref_tie h0 (m := 2) (v0 := byt c0 - 192) (.inr (.inl ⟨rfl, by omega, z3, rfl⟩))]
        exact refNext_2 b o n cap m bs c0 w hl hn hm h0 ⟨by omega, z3⟩ hc
      by_cases z4 : byt c0 < 240
      · rw [← ref_tie h0 (m := 3) (v0 := byt c0 - 224) (.inr (.inr (.inl ⟨rfl, by omega, z4, rfl⟩)))]
        exact refNext_3 b o n cap m bs c0 w hl hn hm h0 ⟨by omega, z4⟩ hc
      · rw [← ref_tie h0 (m := 4) (v0 := byt c0 - 240) (.inr (.inr (.inr ⟨rfl, by omega, rfl⟩)))]
        exact refNext_4 b o n cap m bs c0 w hl hn hm h0 (by omega) hc
end Go.Proofs.YthbjibgfhagonaaDoor
