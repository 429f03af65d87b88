/- An item's name of a right name is one that archives may have: what the call computes. -/
import Derived.Test.YthedhominhgeaaaDoorTk
import Derived.Test.YthedhominhgeaaaDoorTabs
import Derived.Lib.SplitLaws
import Derived.Lib.IndexBytes
namespace Go.Proofs.YthedhominhgeaaaDoor
open Go.RowKit
set_option linter.unusedVariables false
attribute [local go_sem] nat_byt str_size str_get str_from str_to str_list lit_list

theorem indexB_str (l : List UInt8) : Lib.indexB (str l) (str [47]) = Lib.indexByte l 47 := by
  show Lib.index (str l).data.toList (str [47]).data.toList = _
  rw [str_data, str_data, Lib.index_one]
theorem split_pieces : ∀ (k : Nat) (l : List UInt8), Lib.countB (str l) (str [47]) = k → Lib.splitB (str [47]) 0 k (str l) = (splitL l).map str ∧ (splitL l).length = k + 1 := by
  intro k
  induction k with
  | zero =>
    intro l h
    have hix : Lib.indexB (str l) (str [47]) = -1 := by
      rcases Lib.indexB_cases (str l) (str [47]) with h1 | ⟨i, h1, _⟩
      · exact h1
      · have := Lib.countB_hit (str l) (str [47]) i (by rw [str_size]; decide) h1; omega
    rw [indexB_str] at hix
    rw [index_none hix]
    exact ⟨rfl, rfl⟩
  | succ k ih =>
    intro l h
    rcases Lib.indexB_cases (str l) (str [47]) with h1 | ⟨i, h1, _⟩
    · rw [Lib.countB_miss _ _ h1] at h; omega
    · have hc := Lib.countB_hit (str l) (str [47]) i (by rw [str_size]; decide) h1
      rw [Lib.splitB_hit _ 0 k (str l) i h1]
      rw [indexB_str] at h1
      obtain ⟨_, h2⟩ := index_some h1
      have e1 : (str l).extract (i + (str [47]).size) (str l).size = str (l.drop (i + 1)) := by
        rw [str_size, str_size, str_from]; rfl
      rw [e1] at hc ⊢
      obtain ⟨g1, g2⟩ := ih (l.drop (i + 1)) (by omega)
      rw [h2, g1, Nat.add_zero, str_to]
      exact ⟨rfl, by rw [List.length_cons, g2]⟩
theorem split_lib (l : List UInt8) (m : Int) (w : World) (hl : l.length ≤ 1000000) (hm : w.cell? ⟨2, 0, none⟩ = some (.int .i64 m)) :
    Calls Tryd.prog 36 #[.string (str l), .string ⟨#[47]⟩] w fun e w' => e = .returned (.slice (some ⟨w.heap.size, 0, none⟩) (splitL l).length (splitL l).length) ∧ w' = w.alloc (.cells (((splitL l).map str).map Value.string).toArray 9) := by
  have := Tryd.strings_Split (str l) (str [47]) m w (by rw [str_size]; omega) hm (by rw [str_size]; decide)
  obtain ⟨g1, g2⟩ := split_pieces _ l rfl
  rw [g1, ← g2] at this
  exact this
theorem okChar_facts (c : UInt8) : okChar c = true → ¬ byt c < 32 ∧ ¬ byt c = 127 ∧ ¬ byt c = 92 ∧ byt c < 128 :=
  all_bytes (p := fun c => okChar c = true → ¬ byt c < 32 ∧ ¬ byt c = 127 ∧ ¬ byt c = 92 ∧ byt c < 128) (by decide +kernel) c
theorem piece_facts {x : List UInt8} (h : segB x = true) : (x == [46]) = false ∧ (x == [46, 46]) = false ∧ (x == []) = false := by
  refine ⟨?_, ?_, ?_⟩ <;>
  · rw [beq_eq_false_iff_ne]
    intro e
    subst e
    revert h
    decide +kernel
theorem splitL_len (l : List UInt8) : (splitL l).length ≤ l.length + 1 := by
  induction l with
  | nil => simp [splitL]
  | cons c r ih =>
    simp only [splitL]
    by_cases hc : c = 47
    · rw [if_pos hc]; simp; omega
    · rw [if_neg hc]
      cases hs : splitL r with
      | nil => exact absurd hs (splitL_ne r)
      | cons h tl => rw [hs] at ih; simp at ih ⊢; omega
theorem lit_dot : (⟨#[46]⟩ : ByteArray).toList = [46] := lit_list [46]
theorem lit_dots : (⟨#[46, 46]⟩ : ByteArray).toList = [46, 46] := lit_list [46, 46]

set_option maxHeartbeats 2000000 in
theorem fault_right (r : List UInt8) (w : World) (h : rightB (47 :: r) = true) (hT : Tab2 w) : Calls Tryd.prog 13 #[.string (str r), .bool false] w fun e w' => e = .returned (.bool false) ∧ Below w.heap.size w w' := by
  have hl := right_len h
  simp only [List.length_cons] at hl
  have hsc : scanT 47 (toks r) = true := by rw [right_scan, Bool.and_eq_true] at h; exact h.2
  have hpc : (splitL r).all segB = true := by
    have h2 : (decide ((47 : UInt8) = 47) && decide (1 ≤ r.length ∧ r.length ≤ 254) && (splitL r).all segB) = true := h
    rw [Bool.and_eq_true] at h2; exact h2.2
  have HC := Lib.hid (right_chars r 47 hsc)
  have HPC := Lib.hid (List.all_eq_true.1 hpc)
  have hne : (r == []) = false := by
    rw [beq_eq_false_iff_ne]; intro e; rw [e] at hl; simp at hl
  have i1 : ¬ (255 : Int) < (r.length : Int) := by omega
  obtain ⟨m, hm⟩ := hT
  have HSP := Lib.hid (split_lib r m w (by omega) hm)
  clear h hsc hpc hm
  go_enter Tryd.func13, Tryd.ntmps13
  go_wp2_with fail
  go_loopw [27] (fun s27 wx => ∃ (k : Nat), k ≤ r.length ∧ s27 = .int .i64 k ∧ wx = w) (fun i _ => r.length - (intOf i).toNat)
  case atStart => exact ⟨0, by omega, rfl, rfl⟩
  case round =>
    obtain ⟨k, hk, rfl, rfl⟩ := hrel
    by_cases hlt : k < r.length
    · obtain ⟨c, hc⟩ : ∃ c, r[k]? = some c := ⟨r[k], List.getElem?_eq_getElem hlt⟩
      have e0 : ∀ h : k < r.length, r[k]'h = c := fun h => by rw [List.getElem?_eq_getElem h] at hc; exact Option.some.inj hc
      obtain ⟨f1, f2, f3, f4⟩ := okChar_facts c (HC.out c (List.mem_of_getElem? hc))
      have i2 : (k : Int) < (r.length : Int) := by omega
      have f2' : (byt c == 127) = false := beq_eq_false_iff_ne.2 f2
      have f3' : (byt c == 92) = false := beq_eq_false_iff_ne.2 f3
      have f4' : ¬ 128 ≤ byt c := by omega
      clear hc f2 f3
      go_wp2_with fail
      go_roundw
      case rel => exact ⟨k + 1, by omega, by simp, trivial⟩
      case measure => simp [intOf]; omega
    · have i2 : ¬ (k : Int) < (r.length : Int) := by omega
      go_wp2_with fail
      refine HSP.out.mono ?_
      rintro e w1 ⟨rfl, hw1⟩
      have hb1 : Below wr.heap.size wr w1 := by rw [hw1]; exact (Below.refl _ _).alloc (Nat.le_refl _) _
      have hblk : w1.heap[wr.heap.size]? = some (.cells (((splitL r).map str).map Value.string).toArray 9) := by rw [hw1]; exact World.alloc_heap_new wr _
      have HCELL : Hid (∀ i x, (splitL r)[i]? = some x → w1.cell? ⟨wr.heap.size, i, none⟩ = some (.string (str x))) := Lib.hid (fun i x hi => by
        rw [cell_of_row _ _ _ _ _ _ hblk]
        rw [List.getElem?_toArray, List.getElem?_map, List.getElem?_map, hi]; rfl)
      have HB1 := Lib.hid hb1
      clear hw1 hblk hb1 HSP
      have hNl := splitL_len r
      generalize splitL r = ps at *
      generalize hN : ps.length = N at *
      have hNb : N ≤ 255 := by omega
      have HN := Lib.hid hN
      clear hN
      go_wp2_with fail
      go_loopw [56] (fun s56 wx => ∃ (j : Nat), j ≤ N ∧ s56 = .int .i64 j ∧ wx = w1) (fun i _ => N - (intOf i).toNat)
      case atStart => exact ⟨0, by omega, rfl, rfl⟩
      case round =>
        obtain ⟨j, hj, rfl, rfl⟩ := hrel
        by_cases hlt2 : j < N
        · obtain ⟨x, hx⟩ : ∃ x, ps[j]? = some x := ⟨ps[j]'(by rw [HN.out]; exact hlt2), List.getElem?_eq_getElem _⟩
          have hcell := HCELL.out j x hx
          obtain ⟨g1, g2, g3⟩ := piece_facts (HPC.out x (List.mem_of_getElem? hx))
          have i3 : (j : Int) < (N : Int) := by omega
          clear hx
          go_wp2_with fail
          go_roundw
          case rel => exact ⟨j + 1, by omega, by simp, trivial⟩
          case measure => simp [intOf]; omega
        · have i3 : ¬ (j : Int) < (N : Int) := by omega
          go_wp2_with fail
          go_ret
          exact ⟨rfl, HB1.out⟩
end Go.Proofs.YthedhominhgeaaaDoor
