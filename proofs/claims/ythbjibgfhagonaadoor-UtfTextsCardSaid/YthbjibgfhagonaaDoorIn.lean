/- Whether a number lies in one of a list of spans: what the calls compute. -/
import Derived.Test.YthbjibgfhagonaaDoorProg
import Derived.WalkKit
import Derived.WalkSpells
import Derived.WalkLawsBesides
import Derived.Deep.QuietTactic
import Derived.BigQuiet
import Derived.Lib.Hide
import Derived.WalkSmall
namespace Go.Proofs.YthbjibgfhagonaaDoor
open Go.RowKit
set_option linter.unusedVariables false

def inAny (r : Int) (l : List (Int × Int)) : Bool := l.any fun s => decide (s.1 ≤ r) && decide (r ≤ s.2)
/-- Spans that lie in a block. -/
def Spans (w : World) (g : Nat) (l : List (Int × Int)) : Prop :=
  ∀ i a b, l[i]? = some (a, b) → w.cell? ⟨g, i * 2, none⟩ = some (.int .i32 a) ∧ w.cell? ⟨g, i * 2 + 1, none⟩ = some (.int .i32 b)
theorem Spans.below {w w' : World} {g B : Nat} {l : List (Int × Int)} (h : Spans w g l) (hb : Below B w w') (hg : g < B) : Spans w' g l := fun i a b hi => by
  obtain ⟨h1, h2⟩ := h i a b hi
  exact ⟨by rw [hb.cell (p := ⟨g, i * 2, none⟩) hg]; exact h1, by rw [hb.cell (p := ⟨g, i * 2 + 1, none⟩) hg]; exact h2⟩

theorem in1_any (r a b : Int) (g : Nat) (w : World) (hc : w.cell? ⟨g, 0, none⟩ = some (.int .i32 r)) :
    Calls Tryd.prog 43 #[.agg #[.int .i32 a, .int .i32 b], .pointer (some ⟨g, 0, none⟩)] w fun e w' => e = .returned (.bool (decide (a ≤ r) && decide (r ≤ b))) ∧ Below w.heap.size w w' := by
  have hg : g < w.heap.size := block_lt_of_cell hc
  obtain ⟨v, hv⟩ : ∃ v, v = (decide (a ≤ r) && decide (r ≤ b)) := ⟨_, rfl⟩
  rw [← hv]
  have hv' : v = true ∧ a ≤ r ∧ r ≤ b ∨ v = false ∧ a ≤ r ∧ b < r ∨ v = false ∧ r < a := by
    rw [hv]
    by_cases h1 : a ≤ r
    · by_cases h2 : r ≤ b
      · exact .inl ⟨by simp [h1, h2], h1, h2⟩
      · exact .inr (.inl ⟨by simp [h2], h1, by omega⟩)
    · exact .inr (.inr ⟨by simp [h1], by omega⟩)
  clear hv
  rcases hv' with ⟨rfl, h1, h2⟩ | ⟨rfl, h1, h2⟩ | ⟨rfl, h1⟩
  case' inr.inl => have h3 : decide (r ≤ b) = false := by simp; omega
  all_goals
    go_enter Tryd.func43, Tryd.ntmps43
    go_wp2
    go_ret
    exact ⟨rfl, (Below.refl _ _).alloc (Nat.le_refl _) _⟩

theorem inAny_snoc (r : Int) (l : List (Int × Int)) (k : Nat) (a b : Int) (h : l[k]? = some (a, b)) : inAny r (l.take (k + 1)) = (inAny r (l.take k) || (decide (a ≤ r) && decide (r ≤ b))) := by
  unfold inAny
  rw [List.take_add_one, h, List.any_append]; simp
theorem inAny_hit (r : Int) (l : List (Int × Int)) (k : Nat) (a b : Int) (h : l[k]? = some (a, b)) (hh : (decide (a ≤ r) && decide (r ≤ b)) = true) : inAny r l = true := by
  unfold inAny
  rw [List.any_eq_true]
  exact ⟨(a, b), List.mem_of_getElem? h, hh⟩

set_option maxHeartbeats 400000 in
theorem indexFunc_any (r : Int) (g s n cap : Nat) (l : List (Int × Int)) (hl : l.length = n) (hn : n ≤ 1000) (w : World) (hc : w.cell? ⟨g, 0, none⟩ = some (.int .i32 r)) (hs : Spans w s l) (hsB : s < w.heap.size) :
    Calls Tryd.prog 48 #[.slice (some ⟨s, 0, none⟩) n cap, .func (.func 43) #[] #[.pointer (some ⟨g, 0, none⟩)]] w fun e w' => (∃ k : Int, e = .returned (.int .i64 k) ∧ decide (0 ≤ k) = inAny r l) ∧ Below w.heap.size w w' := by
  have hg : g < w.heap.size := block_lt_of_cell hc
  have HL := Lib.hid hl; have HS := Lib.hid hs; have HC := Lib.hid hc
  clear hl hs hc
  go_enter Tryd.func48, Tryd.ntmps48
  go_wp2
  go_loopw [8] (fun i wr => ∃ k : Nat, k ≤ n ∧ i = .int .i64 k ∧ Hid (inAny r (l.take k) = false) ∧ Below w.heap.size w wr) (fun i _ => n - (intOf i).toNat)
  case atStart => exact ⟨0, by omega, rfl, Lib.hid rfl, Below.refl _ _⟩
  case round =>
    obtain ⟨k, hk, rfl, hno, hb⟩ := hrel
    by_cases hlt : k < n
    · obtain ⟨p, hp⟩ : ∃ p, l[k]? = some p := ⟨l[k]'(by have := HL.out; omega), List.getElem?_eq_getElem _⟩
      obtain ⟨a, b⟩ := p
      obtain ⟨c1, c2⟩ := HS.out.below hb hsB k a b hp
      have HP := Lib.hid hp
      clear hp
      go_wp2_with fail
      refine (in1_any r a b g _ (by rw [hb.cell (p := ⟨g, 0, none⟩) hg]; exact HC.out)).mono ?_
      rintro e w2 ⟨rfl, hb2⟩
      have hbb := hb.trans (hb2.mono hb.size)
      by_cases hh : (decide (a ≤ r) && decide (r ≤ b)) = true
      · rw [hh]
        have HH := Lib.hid hh
        clear hh
        go_wp2_with fail
        go_ret
        exact ⟨⟨k, rfl, by rw [inAny_hit r l k a b HP.out HH.out]; simp⟩, hbb⟩
      · have hh' : (decide (a ≤ r) && decide (r ≤ b)) = false := by simpa using hh
        rw [hh']
        have HH := Lib.hid hh'
        clear hh hh'
        go_wp2_with fail
        go_roundw
        case rel => exact ⟨k + 1, by omega, by go_num, Lib.hid (by rw [inAny_snoc r l k a b HP.out, hno.out, HH.out]; rfl), hbb⟩
        case measure => simp [intOf]; omega
    · go_wp2
      go_ret
      have : k = n := by omega
      subst this
      refine ⟨⟨-1, rfl, ?_⟩, hb⟩
      have h1 := hno.out
      rw [← HL.out, List.take_length] at h1
      rw [h1]; rfl

theorem containsFunc_any (r : Int) (g s n cap : Nat) (l : List (Int × Int)) (hl : l.length = n) (hn : n ≤ 1000) (w : World) (hc : w.cell? ⟨g, 0, none⟩ = some (.int .i32 r)) (hs : Spans w s l) (hsB : s < w.heap.size) :
    Calls Tryd.prog 42 #[.slice (some ⟨s, 0, none⟩) n cap, .func (.func 43) #[] #[.pointer (some ⟨g, 0, none⟩)]] w fun e w' => e = .returned (.bool (inAny r l)) ∧ Below w.heap.size w w' := by
  go_enter Tryd.func42, Tryd.ntmps42
  go_wp2_with fail
  refine (indexFunc_any r g s n cap l hl hn w hc hs hsB).mono ?_
  rintro e w2 ⟨⟨k, rfl, hk⟩, hb2⟩
  have HK := Lib.hid hk
  clear hk hc hs hl
  go_wp2_with fail
  go_ret
  refine ⟨?_, hb2⟩
  rw [← HK.out]; rfl

theorem in_any (r : Int) (s n cap : Nat) (l : List (Int × Int)) (hl : l.length = n) (hn : n ≤ 1000) (w : World) (hs : Spans w s l) (hsB : s < w.heap.size) :
    Calls Tryd.prog 31 #[.int .i32 r, .slice (some ⟨s, 0, none⟩) n cap] w fun e w' => e = .returned (.bool (inAny r l)) ∧ Below w.heap.size w w' := by
  have HS := Lib.hid hs; have HL := Lib.hid hl
  clear hs hl
  go_enter Tryd.func31, Tryd.ntmps31
  go_wp2_with fail
  refine (containsFunc_any r w.heap.size s n cap l HL.out hn _ (by simp) (HS.out.below ((Below.refl w.heap.size w).alloc (Nat.le_refl _) _) hsB) (by simp; omega)).mono ?_
  rintro e w2 ⟨rfl, hb2⟩
  go_wp2_with fail
  go_ret
  exact ⟨rfl, ((Below.refl w.heap.size w).alloc (Nat.le_refl _) _).trans (hb2.mono (by simp))⟩
end Go.Proofs.YthbjibgfhagonaaDoor
