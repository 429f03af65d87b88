/- A digit's number: what the call computes. -/
import Derived.Test.YthedhominhgeaaaDoorChr
namespace Go.Proofs.YthedhominhgeaaaDoor
open Go.RowKit
set_option linter.unusedVariables false

theorem hex_any (c : UInt8) (w : World) : Calls Tryd.prog 44 #[.string ⟨#[48, 49, 50, 51, 52, 53, 54, 55, 56, 57, 65, 66, 67, 68, 69, 70]⟩, .int .u8 (byt c)] w fun e w' => e = .returned (.int .i64 (Lib.indexByte [48, 49, 50, 51, 52, 53, 54, 55, 56, 57, 65, 66, 67, 68, 69, 70] c)) ∧ w' = w := by
  have := Tryd.strings_IndexByte ⟨#[48, 49, 50, 51, 52, 53, 54, 55, 56, 57, 65, 66, 67, 68, 69, 70]⟩ (byt c) w
  rw [byt_u8] at this
  exact this
theorem andNot_byt (c : UInt8) : bits .andNot .u8 (byt c) 32 = byt (c &&& ~~~32) := by
  have h : ∀ n : Fin 256, ((n : Nat) &&& 223 : Nat) = (UInt8.ofNat n &&& ~~~32).toNat := by decide +kernel
  have h2 := h ⟨c.toNat, c.toNat_lt⟩
  rw [u8_andNot _ _ (byt_nonneg c) (byt_lt c) (by decide) (by decide)]
  unfold byt
  rw [Int.toNat_natCast]
  have h3 : (255 - (32 : Int).toNat) = 223 := rfl
  rw [h3]
  simp only at h2
  rw [h2]; simp
theorem digit_any (c : UInt8) (w : World) : Calls Tryd.prog 43 #[.int .u8 (byt c)] w fun e w' => e = .returned (.int .i64 (digit c)) ∧ w' = w := by
  have H1 := Lib.hid (fun w => letter_any c w)
  have ht := digit_table c
  cases hl : letter c with
  | false =>
    rw [hl] at H1
    rw [hl, if_neg (by simp)] at ht
    have H2 := Lib.hid (fun w => hex_any c w)
    rw [ht] at H2
    clear ht
    generalize digit c = d at *
    go_enter Tryd.func43, Tryd.ntmps43
    go_wp2_with (first | (go_at_call 41; refine (H1.out _).mono ?_; rintro e w1 ⟨rfl, rfl⟩) | (go_at_call 44; refine (H2.out _).mono ?_; rintro e w1 ⟨rfl, rfl⟩))
    go_ret
    exact ⟨rfl, rfl⟩
  | true =>
    rw [hl] at H1
    rw [hl, if_pos rfl] at ht
    have H2 := Lib.hid (fun w => hex_any (c &&& ~~~32) w)
    rw [ht] at H2
    clear ht
    generalize digit c = d at *
    go_enter Tryd.func43, Tryd.ntmps43
    go_wp2_with (first | (go_at_call 41; refine (H1.out _).mono ?_; rintro e w1 ⟨rfl, rfl⟩))
    rw [andNot_byt]
    refine (H2.out _).mono ?_
    rintro e w2 ⟨rfl, rfl⟩
    go_wp2_with fail
    go_ret
    exact ⟨rfl, rfl⟩

theorem Below.drewN {B : Nat} {a w : World} (h : Below B a w) (n : Nat) : Below B a (w.drewN n) := ⟨h.os, h.tape, h.output, h.size, h.block⟩
theorem below_step {a w w' : World} (h : Below a.heap.size a w) (k : Below w.heap.size w w') : Below a.heap.size a w' := h.trans (k.mono h.size)
/-- A text of bytes; closed to the walk's simp. -/
def str (l : List UInt8) : ByteArray := ⟨l.toArray⟩
theorem str_size (l : List UInt8) : (str l).size = l.length := by unfold str; rw [Lib.size_eq]
theorem str_data (l : List UInt8) : (str l).data.toList = l := by unfold str; simp
theorem str_get (l : List UInt8) (i : Nat) (h : i < (str l).size) : (str l)[i]'h = l[i]'(by rw [str_size] at h; exact h) := by
  simp [str, ByteArray.getElem_eq_getElem_data]
theorem str_of (s : ByteArray) : str s.data.toList = s := by unfold str; simp
theorem str_cut (l : List UInt8) (i j : Nat) : (str l).extract i j = str ((l.drop i).take (j - i)) := by
  rw [← str_of ((str l).extract i j), Lib.extract_data, str_data]
theorem str_from (l : List UInt8) (i : Nat) : (str l).extract i l.length = str (l.drop i) := by
  rw [str_cut, List.take_of_length_le (by rw [List.length_drop]; exact Nat.le_refl _)]
theorem str_to (l : List UInt8) (j : Nat) : (str l).extract 0 j = str (l.take j) := by
  rw [str_cut]; simp
theorem str_list (l : List UInt8) : (str l).toList = l := by rw [Lib.toList_data, str_data]
theorem lit_list (l : List UInt8) : (⟨l.toArray⟩ : ByteArray).toList = l := str_list l
theorem str_inj {a b : List UInt8} : str a = str b ↔ a = b := ⟨fun h => by rw [← str_data a, h, str_data], fun h => by rw [h]⟩
theorem nat_byt (c : UInt8) : (c.toNat : Int) = byt c := rfl
attribute [local go_sem] nat_byt str_size str_get str_from str_to str_list

/-- The byte that a text's first three signs tell. -/
def toldV : List UInt8 → Option UInt8
  | a :: x :: y :: _ => if a = 37 ∧ 0 ≤ digit x ∧ 0 ≤ digit y then some (UInt8.ofNat (16 * digit x + digit y).toNat) else none
  | _ => none
theorem told_none (l : List UInt8) (w : World) (hl : l.length ≤ 1099511627776) (h : l.length < 3) : Calls Tryd.prog 25 #[.string (str l)] w fun e w' => e = .returned (.tuple #[.int .u8 0, .bool false]) ∧ w' = w := by
  have h2 : (l.length : Int) < 3 := by omega
  generalize hn : l.length = n at *
  have h3 : (str l).size = n := by rw [str_size, hn]
  clear hn
  go_enter Tryd.func25, Tryd.ntmps25
  go_wp2
  go_ret2
  exact ⟨rfl, rfl⟩
theorem told_not (l : List UInt8) (a : UInt8) (w : World) (hl : l.length ≤ 1099511627776) (h : 3 ≤ l.length) (h0 : l[0]? = some a) (ha : ¬ byt a = 37) : Calls Tryd.prog 25 #[.string (str l)] w fun e w' => e = .returned (.tuple #[.int .u8 0, .bool false]) ∧ w' = w := by
  have e0 : ∀ h : 0 < l.length, l[0]'h = a := fun h => by rw [List.getElem?_eq_getElem h] at h0; exact Option.some.inj h0
  have h3 : ¬ (l.length : Int) < 3 := by omega
  have h5 : (byt a == 37) = false := by rw [beq_eq_false_iff_ne]; exact ha
  clear h0
  go_enter Tryd.func25, Tryd.ntmps25
  go_wp2_with fail
  go_ret2
  exact ⟨rfl, rfl⟩
theorem digit_range (c : UInt8) : -1 ≤ digit c ∧ digit c ≤ 15 := by
  unfold digit; repeat (first | omega | split)
theorem told_bits (a b : Int) (ha : 0 ≤ a ∧ a ≤ 15) (hb : 0 ≤ b ∧ b ≤ 15) : bits .or .i64 (wrap64 (a * 16)) (bits .and .i64 b 15) % 256 = 16 * a + b := by
  have h : ∀ a b : Fin 16, bits .or .i64 (wrap64 (((a : Nat) : Int) * 16)) (bits .and .i64 ((b : Nat) : Int) 15) % 256 = 16 * ((a : Nat) : Int) + ((b : Nat) : Int) := by decide +kernel
  have := h ⟨a.toNat, by omega⟩ ⟨b.toNat, by omega⟩
  simp only at this
  rwa [Int.toNat_of_nonneg ha.1, Int.toNat_of_nonneg hb.1] at this
theorem three_of {l : List UInt8} {a x y : UInt8} (h0 : l[0]? = some a) (h1 : l[1]? = some x) (h2 : l[2]? = some y) : ∃ r, l = a :: x :: y :: r := by
  match l, h0, h1, h2 with
  | a' :: x' :: y' :: r, h0, h1, h2 =>
    simp at h0 h1 h2
    subst h0; subst h1; subst h2
    exact ⟨r, rfl⟩
theorem told_three (l : List UInt8) (a x y : UInt8) (w : World) (hl : l.length ≤ 1099511627776) (h : 3 ≤ l.length) (h0 : l[0]? = some a) (h1 : l[1]? = some x) (h2 : l[2]? = some y) (ha : byt a = 37) : Calls Tryd.prog 25 #[.string (str l)] w fun e w' => e = .returned (.tuple #[.int .u8 (bits .or .i64 (wrap64 (digit x * 16)) (bits .and .i64 (digit y) 15) % 256), .bool (decide (0 ≤ digit x) && decide (0 ≤ digit y))]) ∧ ∃ q, w' = w.drewN q := by
  have H1 := Lib.hid (fun c w => digit_any c w)
  have e0 : ∀ h : 0 < l.length, l[0]'h = a := fun h => by rw [List.getElem?_eq_getElem h] at h0; exact Option.some.inj h0
  have e1 : ∀ h : 1 < l.length, l[1]'h = x := fun h => by rw [List.getElem?_eq_getElem h] at h1; exact Option.some.inj h1
  have e2 : ∀ h : 2 < l.length, l[2]'h = y := fun h => by rw [List.getElem?_eq_getElem h] at h2; exact Option.some.inj h2
  have h3 : ¬ (l.length : Int) < 3 := by omega
  have h5 : (byt a == 37) = true := by rw [beq_iff_eq]; exact ha
  clear h0 h1 h2 ha
  have i1 : (1 : Int) < (l.length : Int) := by omega
  have i2 : (2 : Int) < (l.length : Int) := by omega
  have i3 : 1 < l.length := by omega
  have i4 : 2 < l.length := by omega
  by_cases hx : 0 ≤ digit x
  · by_cases hy : 0 ≤ digit y
    · go_enter Tryd.func25, Tryd.ntmps25
      go_wp2_with fail
      go_quiet (first | (go_at_call 43; refine Calls.quiet_of_same (H1.out _ _)))
      go_wp2_with fail
      go_ret2
      exact ⟨by rw [decide_eq_true hx, decide_eq_true hy]; rfl, _, rfl⟩
    · go_enter Tryd.func25, Tryd.ntmps25
      go_wp2_with fail
      go_quiet (first | (go_at_call 43; refine Calls.quiet_of_same (H1.out _ _)))
      go_wp2_with fail
      go_ret2
      exact ⟨by rw [decide_eq_true hx, decide_eq_false (by omega)]; rfl, _, rfl⟩
  · go_enter Tryd.func25, Tryd.ntmps25
    go_wp2_with fail
    go_quiet (first | (go_at_call 43; refine Calls.quiet_of_same (H1.out _ _)))
    go_wp2_with fail
    go_ret2
    exact ⟨by rw [decide_eq_false (by omega)]; rfl, _, rfl⟩
theorem told_any (l : List UInt8) (w : World) (hl : l.length ≤ 1099511627776) : Calls Tryd.prog 25 #[.string (str l)] w fun e w' => Below w.heap.size w w' ∧ match toldV l with
    | some c => e = .returned (.tuple #[.int .u8 (byt c), .bool true])
    | none => ∃ v : Int, e = .returned (.tuple #[.int .u8 v, .bool false]) := by
  by_cases h : l.length < 3
  · refine (told_none l w hl h).mono ?_
    rintro e w' ⟨rfl, rfl⟩
    have : toldV l = none := by
      match l, h with
      | [], _ => rfl
      | [_], _ => rfl
      | [_, _], _ => rfl
    rw [this]
    exact ⟨Below.refl _ _, 0, rfl⟩
  · obtain ⟨a, h0⟩ : ∃ a, l[0]? = some a := ⟨l[0]'(by omega), List.getElem?_eq_getElem _⟩
    obtain ⟨x, h1⟩ : ∃ a, l[1]? = some a := ⟨l[1]'(by omega), List.getElem?_eq_getElem _⟩
    obtain ⟨y, h2⟩ : ∃ a, l[2]? = some a := ⟨l[2]'(by omega), List.getElem?_eq_getElem _⟩
    obtain ⟨r, hr⟩ := three_of h0 h1 h2
    by_cases ha : byt a = 37
    · refine (told_three l a x y w hl (by omega) h0 h1 h2 ha).mono ?_
      rintro e w' ⟨rfl, q, rfl⟩
      have ha2 : a = 37 := byt_inj ha
      refine ⟨Below.drewN (Below.refl _ _) _, ?_⟩
      rw [hr]
      show match (if a = 37 ∧ 0 ≤ digit x ∧ 0 ≤ digit y then some (UInt8.ofNat (16 * digit x + digit y).toNat) else none) with | some c => _ | none => _
      by_cases hx : 0 ≤ digit x ∧ 0 ≤ digit y
      · rw [if_pos ⟨ha2, hx⟩, decide_eq_true hx.1, decide_eq_true hx.2, told_bits _ _ ⟨hx.1, (digit_range x).2⟩ ⟨hx.2, (digit_range y).2⟩]
        have hb := (digit_range x).2; have hb2 := (digit_range y).2
        have : byt (UInt8.ofNat (16 * digit x + digit y).toNat) = 16 * digit x + digit y := by
          unfold byt
          rw [UInt8.toNat_ofNat_of_lt' (by show _ < 256; omega), Int.toNat_of_nonneg (by omega)]
        show _ = Ending.returned (Value.tuple #[Value.int IntKind.u8 (byt (UInt8.ofNat (16 * digit x + digit y).toNat)), Value.bool true])
        rw [this]; rfl
      · rw [if_neg (fun h => hx h.2)]
        have : (decide (0 ≤ digit x) && decide (0 ≤ digit y)) = false := by
          cases hd : decide (0 ≤ digit x) && decide (0 ≤ digit y) with
          | false => rfl
          | true => simp at hd; exact absurd hd hx
        rw [this]
        exact ⟨_, rfl⟩
    · refine (told_not l a w hl (by omega) h0 ha).mono ?_
      rintro e w' ⟨rfl, rfl⟩
      refine ⟨Below.refl _ _, ?_⟩
      rw [hr]
      show match (if a = 37 ∧ 0 ≤ digit x ∧ 0 ≤ digit y then some (UInt8.ofNat (16 * digit x + digit y).toNat) else none) with | some c => _ | none => _
      rw [if_neg (fun h => ha (by rw [h.1]; rfl))]
      exact ⟨0, rfl⟩
end Go.Proofs.YthedhominhgeaaaDoor
