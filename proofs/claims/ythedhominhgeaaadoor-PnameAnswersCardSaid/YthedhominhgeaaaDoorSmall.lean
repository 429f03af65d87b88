/- Like, clash, items, parts, split, extension: what the calls compute. -/
import Derived.Test.YthedhominhgeaaaDoorFold
namespace Go.Proofs.YthedhominhgeaaaDoor
open Go.RowKit
set_option linter.unusedVariables false
theorem str_add (a b : List UInt8) : str a ++ str b = str (a ++ b) := by
  rw [← str_of (str a ++ str b)]
  congr 1
theorem lit_slash : (⟨#[47]⟩ : ByteArray) = str [47] := rfl
attribute [local go_sem] nat_byt str_size str_get str_from str_to str_list lit_nil str_add lit_slash

theorem like_any (a b : List UInt8) (w : World) (ha : a.length ≤ 1099511627776) (hb : b.length ≤ 1099511627776) : Calls Tryd.prog 10 #[.string (str a), .string (str b)] w fun e w' => e = .returned (.bool (foldL a == foldL b)) ∧ Below w.heap.size w w' := by
  have H1 := Lib.hid (fun w => fold_any a w ha)
  have H2 := Lib.hid (fun w => fold_any b w hb)
  go_enter Tryd.func10, Tryd.ntmps10
  go_wp2_with fail
  refine (H1.out _).mono ?_
  rintro e w1 ⟨rfl, h1⟩
  go_wp2_with fail
  refine (H2.out _).mono ?_
  rintro e w2 ⟨rfl, h2⟩
  go_wp2_with fail
  go_ret
  exact ⟨rfl, below_step h1 h2⟩
theorem item_any (l : List UInt8) (w : World) (hl : l.length ≤ 1099511627776) : Calls Tryd.prog 11 #[.string (str l)] w fun e w' => e = .returned (if rightB l then .tuple #[.string (str l.tail), .bool true] else .tuple #[.string (str []), .bool false]) ∧ Below w.heap.size w w' := by
  have H1 := Lib.hid (fun w => right_any l w hl)
  cases hr : rightB l with
  | true =>
    have hne : 1 ≤ l.length := by
      cases l with
      | nil => simp [rightB] at hr
      | cons c r => simp
    have i1 : (1 : Int) ≤ (l.length : Int) := by omega
    rw [hr] at H1
    go_enter Tryd.func11, Tryd.ntmps11
    go_wp2_with fail
    refine (H1.out _).mono ?_
    rintro e w1 ⟨rfl, h1⟩
    go_wp2_with fail
    go_ret2
    exact ⟨rfl, h1⟩
  | false =>
    rw [hr] at H1
    go_enter Tryd.func11, Tryd.ntmps11
    go_wp2_with fail
    refine (H1.out _).mono ?_
    rintro e w1 ⟨rfl, h1⟩
    go_wp2_with fail
    go_ret2
    exact ⟨rfl, h1⟩
theorem part_any (l : List UInt8) (w : World) (hl : l.length ≤ 1099511627775) : Calls Tryd.prog 12 #[.string (str l)] w fun e w' => e = .returned (if rightB (47 :: l) then .tuple #[.string (str (47 :: l)), .bool true] else .tuple #[.string (str []), .bool false]) ∧ Below w.heap.size w w' := by
  have H1 := Lib.hid (fun w => right_any (47 :: l) w (by simp; omega))
  cases hr : rightB (47 :: l) with
  | true =>
    rw [hr] at H1
    go_enter Tryd.func12, Tryd.ntmps12
    go_wp2_with fail
    refine (H1.out _).mono ?_
    rintro e w1 ⟨rfl, h1⟩
    go_wp2_with fail
    go_ret2
    exact ⟨rfl, h1⟩
  | false =>
    rw [hr] at H1
    go_enter Tryd.func12, Tryd.ntmps12
    go_wp2_with fail
    refine (H1.out _).mono ?_
    rintro e w1 ⟨rfl, h1⟩
    go_wp2_with fail
    go_ret2
    exact ⟨rfl, h1⟩
/-- The place behind the last c; 0: there is none. -/
def lastP (l : List UInt8) (c : UInt8) : Nat := match l with
  | [] => 0
  | b :: r => if lastP r c = 0 then (if b = c then 1 else 0) else lastP r c + 1
def IsLast (l : List UInt8) (c : UInt8) (p : Nat) : Prop := (p = 0 ∧ ∀ i : Nat, l[i]? ≠ some c) ∨ ∃ q : Nat, p = q + 1 ∧ l[q]? = some c ∧ ∀ j : Nat, q < j → l[j]? ≠ some c
theorem lastP_is (l : List UInt8) (c : UInt8) : IsLast l c (lastP l c) := by
  induction l with
  | nil => exact .inl ⟨rfl, fun i => by simp⟩
  | cons b r ih =>
    have hd : lastP (b :: r) c = if lastP r c = 0 then (if b = c then 1 else 0) else lastP r c + 1 := rfl
    rw [hd]
    rcases ih with ⟨h0, h1⟩ | ⟨q, h0, h1, h2⟩
    · rw [if_pos h0]
      by_cases hb : b = c
      · rw [if_pos hb]
        exact .inr ⟨0, rfl, by rw [hb]; rfl, fun j hj => by
          obtain ⟨k, rfl⟩ : ∃ k, j = k + 1 := ⟨j - 1, by omega⟩
          exact h1 k⟩
      · rw [if_neg hb]
        exact .inl ⟨rfl, fun i => by
          cases i with
          | zero => simpa using hb
          | succ i => exact h1 i⟩
    · rw [if_neg (by omega)]
      exact .inr ⟨q + 1, by omega, h1, fun j hj => by
        obtain ⟨k, rfl⟩ : ∃ k, j = k + 1 := ⟨j - 1, by omega⟩
        exact h2 k (by omega)⟩
theorem IsLast.eq {l : List UInt8} {c : UInt8} {p q : Nat} (h : IsLast l c p) (k : IsLast l c q) : p = q := by
  rcases h with ⟨h0, h1⟩ | ⟨a, h0, h1, h2⟩
  · rcases k with ⟨k0, k1⟩ | ⟨b, k0, k1, k2⟩
    · omega
    · exact absurd k1 (h1 b)
  · rcases k with ⟨k0, k1⟩ | ⟨b, k0, k1, k2⟩
    · exact absurd h1 (k1 a)
    · rcases Nat.lt_trichotomy a b with hlt | heq | hlt
      · exact absurd k1 (h2 b hlt)
      · omega
      · exact absurd h1 (k2 a hlt)
theorem lastP_le (l : List UInt8) (c : UInt8) : lastP l c ≤ l.length := by
  rcases lastP_is l c with ⟨h, _⟩ | ⟨q, h, h1, _⟩
  · omega
  · rcases Nat.lt_or_ge q l.length with h2 | h2
    · omega
    · rw [List.getElem?_eq_none h2] at h1; simp at h1
theorem data_at (l : List UInt8) (j : Nat) (h : j < l.length) : (str l).data[j]! = l[j]'h := by
  unfold str
  simp [h]
theorem last_index (l : List UInt8) (c : UInt8) : Lib.lastIndexByte (str l) (byt c) = (lastP l c : Int) - 1 := by
  have hs : (str l).size = l.length := str_size l
  have : ∃ p : Nat, Lib.lastIndexByte (str l) (byt c) = (p : Int) - 1 ∧ IsLast l c p := by
    unfold Lib.lastIndexByte
    rw [hs]
    rcases Lib.lastIdx_spec (str l) (byt c) l.length with ⟨h1, h2⟩ | ⟨i, h1, h2, h3, h4⟩
    · refine ⟨0, by rw [h1]; rfl, .inl ⟨rfl, fun i hi => ?_⟩⟩
      have hlt : i < l.length := by
        rcases Nat.lt_or_ge i l.length with h | h
        · exact h
        · rw [List.getElem?_eq_none h] at hi; simp at hi
      rw [List.getElem?_eq_getElem hlt] at hi
      injection hi with hi
      have := h2 i hlt
      rw [data_at l i hlt, hi] at this
      exact this rfl
    · refine ⟨i + 1, by rw [h2]; omega, .inr ⟨i, rfl, ?_, fun j hj hjc => ?_⟩⟩
      · rw [data_at l i h1] at h3
        rw [List.getElem?_eq_getElem h1, byt_inj h3]
      · have hlt : j < l.length := by
          rcases Nat.lt_or_ge j l.length with h | h
          · exact h
          · rw [List.getElem?_eq_none h] at hjc; simp at hjc
        rw [List.getElem?_eq_getElem hlt] at hjc
        injection hjc with hjc
        have := h4 j hj hlt
        rw [data_at l j hlt, hjc] at this
        exact this rfl
  obtain ⟨p, h1, h2⟩ := this
  rw [h1, h2.eq (lastP_is l c)]
theorem lastByte_any (l : List UInt8) (c : UInt8) (w : World) (hl : l.length ≤ 1099511627776) : Calls Tryd.prog 37 #[.string (str l), .int .u8 (byt c)] w fun e w' => e = .returned (.int .i64 ((lastP l c : Int) - 1)) ∧ w' = w := by
  have := Tryd.strings_LastIndexByte (str l) (byt c) (by rw [str_size]; omega) w
  rw [last_index] at this
  exact this
theorem split_any (l : List UInt8) (w : World) (hl : l.length ≤ 1099511627776) : Calls Tryd.prog 14 #[.string (str l)] w fun e w' => e = .returned (.tuple #[.string (str (l.take (lastP l 47))), .string (str (l.drop (lastP l 47)))]) ∧ Below w.heap.size w w' := by
  have H1 := Lib.hid (fun w => lastByte_any l 47 w hl)
  have hle := lastP_le l 47
  generalize lastP l 47 = p at H1 hle ⊢
  have i1 : ((p : Int) - 1) + 1 = (p : Int) := by omega
  have i2 : (p : Int) ≤ (l.length : Int) := by omega
  have i3 : (0 : Int) ≤ (p : Int) := by omega
  go_enter Tryd.func14, Tryd.ntmps14
  go_wp2_with fail
  refine (H1.out _).mono ?_
  rintro e w1 ⟨rfl, hww⟩
  subst hww
  go_wp2_with fail
  go_quiet (fail)
  go_wp2_with fail
  go_ret2
  exact ⟨rfl, Below.drewN (Below.refl _ _) _⟩
def baseL (l : List UInt8) : List UInt8 := l.drop (lastP l 47)
def extL (l : List UInt8) : List UInt8 := if lastP (baseL l) 46 = 0 then [] else foldL ((baseL l).drop (lastP (baseL l) 46))
theorem ext_any (l : List UInt8) (w : World) (hl : l.length ≤ 1099511627776) : Calls Tryd.prog 20 #[.string (str l)] w fun e w' => e = .returned (.string (str (extL l))) ∧ Below w.heap.size w w' := by
  have H1 := Lib.hid (fun w => split_any l w hl)
  have hbl : (baseL l).length ≤ 1099511627776 := by unfold baseL; rw [List.length_drop]; omega
  unfold extL
  have H1' : Hid (∀ w, Calls Tryd.prog 14 #[.string (str l)] w fun e w' => e = .returned (.tuple #[.string (str (l.take (lastP l 47))), .string (str (baseL l))]) ∧ Below w.heap.size w w') := H1
  clear H1
  generalize baseL l = b at *
  generalize l.take (lastP l 47) = d at *
  have H2 := Lib.hid (fun w => lastByte_any b 46 w hbl)
  have hle := lastP_le b 46
  generalize lastP b 46 = p at H2 hle ⊢
  by_cases h0 : p = 0
  · subst h0
    rw [if_pos rfl]
    go_enter Tryd.func20, Tryd.ntmps20
    go_wp2_with fail
    refine (H1'.out _).mono ?_
    rintro e w1 ⟨rfl, h1⟩
    go_wp2_with fail
    refine (H2.out _).mono ?_
    rintro e w2 ⟨rfl, hww⟩
    subst hww
    go_wp2_with fail
    go_ret
    exact ⟨rfl, h1⟩
  · rw [if_neg h0]
    have H3 := Lib.hid (fun w => fold_any (b.drop p) w (by rw [List.length_drop]; omega))
    have i1 : ((p : Int) - 1) + 1 = (p : Int) := by omega
    have i2 : (p : Int) ≤ (b.length : Int) := by omega
    have i3 : (0 : Int) ≤ (p : Int) := by omega
    have i4 : ¬ ((p : Int) - 1 < 0) := by omega
    go_enter Tryd.func20, Tryd.ntmps20
    go_wp2_with fail
    refine (H1'.out _).mono ?_
    rintro e w1 ⟨rfl, h1⟩
    go_wp2_with fail
    refine (H2.out _).mono ?_
    rintro e w2 ⟨rfl, hww⟩
    subst hww
    go_wp2_with fail
    refine (H3.out _).mono ?_
    rintro e w3 ⟨rfl, h3⟩
    go_wp2_with fail
    go_ret
    exact ⟨rfl, below_step h1 h3⟩
def clashB (a b : List UInt8) : Bool := (foldL a == foldL b) || List.isPrefixOf (foldL a ++ [47]) (foldL b) || List.isPrefixOf (foldL b ++ [47]) (foldL a)
theorem foldL_len (l : List UInt8) : (foldL l).length = l.length := by unfold foldL; rw [List.length_map]
theorem prefix_any (s p : List UInt8) (w : World) : Calls Tryd.prog 42 #[.string (str s), .string (str p)] w fun e w' => e = .returned (.bool (List.isPrefixOf p s)) ∧ w' = w := by
  have := Tryd.strings_HasPrefix (str s) (str p) w
  rw [str_data, str_data] at this
  exact this
theorem clash_any (a b : List UInt8) (w : World) (ha : a.length ≤ 1099511627776) (hb : b.length ≤ 1099511627776) : Calls Tryd.prog 22 #[.string (str a), .string (str b)] w fun e w' => e = .returned (.bool (clashB a b)) ∧ Below w.heap.size w w' := by
  have H1 := Lib.hid (fun w => fold_any a w ha)
  have H2 := Lib.hid (fun w => fold_any b w hb)
  have H3 := Lib.hid (fun w => prefix_any (foldL b) (foldL a ++ [47]) w)
  have H4 := Lib.hid (fun w => prefix_any (foldL a) (foldL b ++ [47]) w)
  unfold clashB
  have la : (foldL a).length ≤ 1099511627776 := by rw [foldL_len]; exact ha
  have lb : (foldL b).length ≤ 1099511627776 := by rw [foldL_len]; exact hb
  generalize foldL a = x at *
  generalize foldL b = y at *
  generalize List.isPrefixOf (x ++ [47]) y = d1 at *
  generalize List.isPrefixOf (y ++ [47]) x = d2 at *
  cases hxy : x == y with
  | true =>
    go_enter Tryd.func22, Tryd.ntmps22
    go_wp2_with (first | (go_at_call_of 18 a; refine (H1.out _).mono ?_; rintro e w1 ⟨rfl, h1⟩) | (go_at_call 18; refine (H2.out _).mono ?_; rintro e w2 ⟨rfl, h2⟩))
    go_ret
    exact ⟨rfl, below_step h1 h2⟩
  | false =>
    cases d1 with
    | true =>
      go_enter Tryd.func22, Tryd.ntmps22
      go_wp2_with (first | (go_at_call_of 18 a; refine (H1.out _).mono ?_; rintro e w1 ⟨rfl, h1⟩) | (go_at_call 18; refine (H2.out _).mono ?_; rintro e w2 ⟨rfl, h2⟩) | (go_at_call 42; refine (H3.out _).mono ?_; rintro e w3 ⟨rfl, rfl⟩))
      go_ret
      exact ⟨rfl, below_step h1 h2⟩
    | false =>
      go_enter Tryd.func22, Tryd.ntmps22
      go_wp2_with fail
      refine (H1.out _).mono ?_
      rintro e w1 ⟨rfl, h1⟩
      go_wp2_with fail
      refine (H2.out _).mono ?_
      rintro e w2 ⟨rfl, h2⟩
      go_wp2_with fail
      refine (H3.out _).mono ?_
      rintro e w3 ⟨rfl, hww⟩
      subst hww
      go_wp2_with fail
      refine (H4.out _).mono ?_
      rintro e w3 ⟨rfl, hww⟩
      subst hww
      go_wp2_with fail
      go_ret
      exact ⟨rfl, below_step h1 h2⟩
end Go.Proofs.YthedhominhgeaaaDoor
