/- Bytes of names: letters, plain bytes, signs, digits: what the calls compute. No condition. -/
import Derived.Test.YthedhominhgeaaaDoorLay
import Derived.WalkKit
import Derived.WalkSpells
import Derived.WalkSmall
import Derived.Lib.Hide
import Derived.BigQuiet
namespace Go.Proofs.YthedhominhgeaaaDoor
open Go.RowKit
set_option linter.unusedVariables false

/-- A byte as an integer; closed to the walk's simp. -/
def byt (c : UInt8) : Int := c.toNat
theorem byt_lt (c : UInt8) : byt c < 256 := by unfold byt; have := c.toNat_lt; omega
theorem byt_nonneg (c : UInt8) : 0 ≤ byt c := by unfold byt; omega
theorem byt_inj {a b : UInt8} (h : byt a = byt b) : a = b := by
  unfold byt at h; exact UInt8.toNat_inj.1 (by omega)
def letter (c : UInt8) : Bool := decide ((65 ≤ byt c ∧ byt c ≤ 90) ∨ (97 ≤ byt c ∧ byt c ≤ 122))
def plain (c : UInt8) : Bool := letter c || decide (48 ≤ byt c ∧ byt c ≤ 57) || decide (byt c = 45 ∨ byt c = 46 ∨ byt c = 95 ∨ byt c = 126)
def sign (c : UInt8) : Bool := plain c || decide (c ∈ ([33, 36, 38, 39, 40, 41, 42, 43, 44, 59, 61, 58, 64] : List UInt8))

theorem letter_any (c : UInt8) (w : World) : Calls Tryd.prog 41 #[.int .u8 (byt c)] w fun e w' => e = .returned (.bool (letter c)) ∧ w' = w := by
  unfold letter
  generalize byt c = n
  by_cases h1 : 65 ≤ n
  · by_cases h2 : n ≤ 90
    · rw [decide_eq_true (by omega)]
      go_enter Tryd.func41, Tryd.ntmps41
      go_wp2
      go_ret
      exact ⟨rfl, rfl⟩
    · by_cases h3 : 97 ≤ n
      · by_cases h4 : n ≤ 122
        · rw [decide_eq_true (by omega)]
          go_enter Tryd.func41, Tryd.ntmps41
          go_wp2
          go_ret
          exact ⟨rfl, rfl⟩
        · rw [decide_eq_false (by omega)]
          go_enter Tryd.func41, Tryd.ntmps41
          go_wp2
          go_ret
          exact ⟨rfl, rfl⟩
      · rw [decide_eq_false (by omega)]
        go_enter Tryd.func41, Tryd.ntmps41
        go_wp2
        go_ret
        exact ⟨rfl, rfl⟩
  · have h3 : ¬ 97 ≤ n := by omega
    rw [decide_eq_false (by omega)]
    go_enter Tryd.func41, Tryd.ntmps41
    go_wp2
    go_ret
    exact ⟨rfl, rfl⟩
theorem indexByte_mem (l : List UInt8) (c : UInt8) : 0 ≤ Lib.indexByte l c ↔ c ∈ l := by
  induction l with
  | nil => simp [Lib.indexByte]
  | cons b r ih =>
    have hge := Lib.indexByte_ge r c
    have hd : Lib.indexByte (b :: r) c = if b == c then 0 else if Lib.indexByte r c == -1 then -1 else Lib.indexByte r c + 1 := rfl
    rw [hd]
    by_cases h : b = c
    · subst h; simp
    · rw [if_neg (by simpa using h)]
      have h2 : c ∈ b :: r ↔ c ∈ r := by simp [Ne.symm h]
      rw [h2, ← ih]
      by_cases h3 : Lib.indexByte r c = -1
      · rw [if_pos (by simpa using h3)]; omega
      · rw [if_neg (by simpa using h3)]; omega
theorem indexByte_pos (l : List UInt8) (c : UInt8) : decide (0 ≤ Lib.indexByte l c) = decide (c ∈ l) := decide_eq_decide.2 (indexByte_mem l c)
theorem byt_u8 (c : UInt8) : (byt c).toNat.toUInt8 = c := by
  unfold byt; rw [Int.toNat_natCast]; exact UInt8.ofNat_toNat
theorem mem_four (c : UInt8) : decide (c ∈ ([45, 46, 95, 126] : List UInt8)) = decide (byt c = 45 ∨ byt c = 46 ∨ byt c = 95 ∨ byt c = 126) := by
  rw [decide_eq_decide]
  have e : ∀ d : UInt8, c = d ↔ byt c = byt d := fun d => ⟨fun h => by rw [h], byt_inj⟩
  simp only [List.mem_cons, List.not_mem_nil, or_false]
  rw [e 45, e 46, e 95, e 126]; rfl
theorem four_any (c : UInt8) (w : World) : Calls Tryd.prog 44 #[.string ⟨#[45, 46, 95, 126]⟩, .int .u8 (byt c)] w fun e w' => e = .returned (.int .i64 (Lib.indexByte [45, 46, 95, 126] c)) ∧ w' = w := by
  have := Tryd.strings_IndexByte ⟨#[45, 46, 95, 126]⟩ (byt c) w
  rw [byt_u8] at this
  exact this
theorem signs_any (c : UInt8) (w : World) : Calls Tryd.prog 44 #[.string ⟨#[33, 36, 38, 39, 40, 41, 42, 43, 44, 59, 61, 58, 64]⟩, .int .u8 (byt c)] w fun e w' => e = .returned (.int .i64 (Lib.indexByte [33, 36, 38, 39, 40, 41, 42, 43, 44, 59, 61, 58, 64] c)) ∧ w' = w := by
  have := Tryd.strings_IndexByte ⟨#[33, 36, 38, 39, 40, 41, 42, 43, 44, 59, 61, 58, 64]⟩ (byt c) w
  rw [byt_u8] at this
  exact this

theorem plain_any (c : UInt8) (w : World) : Calls Tryd.prog 26 #[.int .u8 (byt c)] w fun e w' => e = .returned (.bool (plain c)) ∧ w' = w := by
  have H1 := Lib.hid (fun w => letter_any c w)
  have H2 := Lib.hid (fun w => four_any c w)
  have hI := indexByte_pos [45, 46, 95, 126] c
  rw [mem_four] at hI
  unfold plain
  cases hl : letter c with
  | true =>
    rw [hl] at H1
    clear hI
    go_enter Tryd.func26, Tryd.ntmps26
    go_wp2_with (go_at_call 41; refine (H1.out _).mono ?_; rintro e w1 ⟨rfl, rfl⟩)
    go_ret
    exact ⟨rfl, rfl⟩
  | false =>
    rw [hl] at H1
    rw [← hI]
    generalize byt c = n at *
    generalize Lib.indexByte [45, 46, 95, 126] c = r at *
    clear hI
    by_cases h1 : 48 ≤ n
    · by_cases h2 : n ≤ 57
      · rw [decide_eq_true ⟨h1, h2⟩]
        go_enter Tryd.func26, Tryd.ntmps26
        go_wp2_with (go_at_call 41; refine (H1.out _).mono ?_; rintro e w1 ⟨rfl, rfl⟩)
        go_ret
        exact ⟨rfl, rfl⟩
      · rw [decide_eq_false (fun h => h2 h.2)]
        have h3 : decide (n ≤ 57) = false := decide_eq_false h2
        go_enter Tryd.func26, Tryd.ntmps26
        go_wp2_with (first | (go_at_call 41; refine (H1.out _).mono ?_; rintro e w1 ⟨rfl, rfl⟩) | (go_at_call 44; refine (H2.out _).mono ?_; rintro e w1 ⟨rfl, rfl⟩))
        go_ret
        exact ⟨rfl, rfl⟩
    · rw [decide_eq_false (fun h => h1 h.1)]
      go_enter Tryd.func26, Tryd.ntmps26
      go_wp2_with (first | (go_at_call 41; refine (H1.out _).mono ?_; rintro e w1 ⟨rfl, rfl⟩) | (go_at_call 44; refine (H2.out _).mono ?_; rintro e w1 ⟨rfl, rfl⟩))
      go_ret
      exact ⟨rfl, rfl⟩
theorem sign_any (c : UInt8) (w : World) : Calls Tryd.prog 30 #[.int .u8 (byt c)] w fun e w' => e = .returned (.bool (sign c)) ∧ w' = w := by
  have H1 := Lib.hid (fun w => plain_any c w)
  have H2 := Lib.hid (fun w => signs_any c w)
  have hI := indexByte_pos [33, 36, 38, 39, 40, 41, 42, 43, 44, 59, 61, 58, 64] c
  unfold sign
  rw [← hI]
  clear hI
  generalize Lib.indexByte [33, 36, 38, 39, 40, 41, 42, 43, 44, 59, 61, 58, 64] c = r at *
  cases hl : plain c with
  | true =>
    rw [hl] at H1
    go_enter Tryd.func30, Tryd.ntmps30
    go_wp2_with (go_at_call 26; refine (H1.out _).mono ?_; rintro e w1 ⟨rfl, rfl⟩)
    go_ret
    exact ⟨rfl, rfl⟩
  | false =>
    rw [hl] at H1
    go_enter Tryd.func30, Tryd.ntmps30
    go_wp2_with (first | (go_at_call 26; refine (H1.out _).mono ?_; rintro e w1 ⟨rfl, rfl⟩) | (go_at_call 44; refine (H2.out _).mono ?_; rintro e w1 ⟨rfl, rfl⟩))
    go_ret
    exact ⟨rfl, rfl⟩

/-- A digit's number; -1: it is none. -/
def digit (c : UInt8) : Int :=
  if 48 ≤ byt c ∧ byt c ≤ 57 then byt c - 48 else if 65 ≤ byt c ∧ byt c ≤ 70 then byt c - 55 else if 97 ≤ byt c ∧ byt c ≤ 102 then byt c - 87 else -1
theorem digit_table : ∀ c : UInt8, Lib.indexByte [48, 49, 50, 51, 52, 53, 54, 55, 56, 57, 65, 66, 67, 68, 69, 70] (if letter c then c &&& ~~~32 else c) = digit c := by
  intro c
  have h : ∀ n : Fin 256, Lib.indexByte [48, 49, 50, 51, 52, 53, 54, 55, 56, 57, 65, 66, 67, 68, 69, 70] (if letter (UInt8.ofNat n) then (UInt8.ofNat n) &&& ~~~32 else (UInt8.ofNat n)) = digit (UInt8.ofNat n) := by decide +kernel
  have := h ⟨c.toNat, c.toNat_lt⟩
  simpa using this
end Go.Proofs.YthedhominhgeaaaDoor
