/- A text cut at its slashes: in plain words; the library's cutter as a value. -/
import Derived.Test.YthedhominhgeaaaDoorSeg
namespace Go.Proofs.YthedhominhgeaaaDoor
open Go.RowKit
set_option linter.unusedVariables false
attribute [local go_sem] nat_byt str_size str_get str_from str_to str_list lit_nil

def splitL : List UInt8 → List (List UInt8)
  | [] => [[]]
  | c :: r => if c = 47 then [] :: splitL r else match splitL r with
    | h :: t => (c :: h) :: t
    | [] => [[c]]
theorem splitL_ne (l : List UInt8) : splitL l ≠ [] := by
  cases l with
  | nil => simp [splitL]
  | cons c r => simp only [splitL]; split; · simp
                · split <;> simp
theorem index_none {l : List UInt8} (h : Lib.indexByte l 47 = -1) : splitL l = [l] := by
  induction l with
  | nil => rfl
  | cons c r ih =>
    have hd : Lib.indexByte (c :: r) 47 = if c == 47 then 0 else if Lib.indexByte r 47 == -1 then -1 else Lib.indexByte r 47 + 1 := rfl
    rw [hd] at h
    by_cases hc : c = 47
    · rw [if_pos (by simpa using hc)] at h; omega
    · rw [if_neg (by simpa using hc)] at h
      have hge := Lib.indexByte_ge r 47
      by_cases hr : Lib.indexByte r 47 = -1
      · simp only [splitL]; rw [if_neg hc, ih hr]
      · rw [if_neg (by simpa using hr)] at h; omega
theorem index_some {l : List UInt8} : ∀ {i : Nat}, Lib.indexByte l 47 = (i : Int) → i < l.length ∧ splitL l = l.take i :: splitL (l.drop (i + 1)) := by
  induction l with
  | nil =>
    intro i h
    have : (-1 : Int) = i := h
    omega
  | cons c r ih =>
    intro i h
    have hd : Lib.indexByte (c :: r) 47 = if c == 47 then 0 else if Lib.indexByte r 47 == -1 then -1 else Lib.indexByte r 47 + 1 := rfl
    rw [hd] at h
    by_cases hc : c = 47
    · rw [if_pos (by simpa using hc)] at h
      have : i = 0 := by omega
      subst this
      refine ⟨by simp, ?_⟩
      simp only [splitL]; rw [if_pos hc]; rfl
    · rw [if_neg (by simpa using hc)] at h
      have hge := Lib.indexByte_ge r 47
      by_cases hr : Lib.indexByte r 47 = -1
      · rw [if_pos (by simpa using hr)] at h; omega
      · rw [if_neg (by simpa using hr)] at h
        obtain ⟨j, rfl⟩ : ∃ j, i = j + 1 := ⟨i - 1, by omega⟩
        obtain ⟨h1, h2⟩ := ih (i := j) (by omega)
        refine ⟨by simp; omega, ?_⟩
        simp only [splitL]; rw [if_neg hc, h2]; rfl

theorem splitSeq_in (l : List UInt8) (w : World) : Calls Tryd.prog 47 #[.string (str l), .string ⟨#[47]⟩, .int .i64 0] w fun e w' =>
    e = .returned (.func (.func 56) #[] #[.pointer (some ⟨w.heap.size + 1, 0, none⟩), .pointer (some ⟨w.heap.size, 0, none⟩), .pointer (some ⟨w.heap.size + 2, 0, none⟩)]) ∧
    w' = ((w.alloc (.cells #[.string (str l)] 9)).alloc (.cells #[.string ⟨#[47]⟩] 9)).alloc (.cells #[.int .i64 0] 3) := by
  go_enter Tryd.func47, Tryd.ntmps47
  go_wp2_with fail
  go_ret
  exact ⟨rfl, rfl⟩
theorem splitSeq_any (l : List UInt8) (w : World) : Calls Tryd.prog 33 #[.string (str l), .string ⟨#[47]⟩] w fun e w' =>
    e = .returned (.func (.func 56) #[] #[.pointer (some ⟨w.heap.size + 1, 0, none⟩), .pointer (some ⟨w.heap.size, 0, none⟩), .pointer (some ⟨w.heap.size + 2, 0, none⟩)]) ∧
    w' = ((w.alloc (.cells #[.string (str l)] 9)).alloc (.cells #[.string ⟨#[47]⟩] 9)).alloc (.cells #[.int .i64 0] 3) := by
  go_enter Tryd.func33, Tryd.ntmps33
  go_wp2_with fail
  refine (splitSeq_in l w).mono ?_
  rintro e w1 ⟨rfl, rfl⟩
  go_wp2_with fail
  go_ret
  exact ⟨rfl, rfl⟩
end Go.Proofs.YthedhominhgeaaaDoor
