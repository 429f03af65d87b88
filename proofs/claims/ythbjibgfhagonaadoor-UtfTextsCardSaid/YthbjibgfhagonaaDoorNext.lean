/- The sign at a place, for all bytes and places: what the call computes. -/
import Derived.Test.YthbjibgfhagonaaDoorDec
import Derived.Test.YthbjibgfhagonaaDoorChar
namespace Go.Proofs.YthbjibgfhagonaaDoor
open Go.RowKit
set_option linter.unusedVariables false

def nextP (bs : List UInt8) (k : Int) : Int × Int :=
  if k < 0 ∨ (bs.length : Int) ≤ k then (0, 0) else
  if (decB (bs.drop k.toNat)).1 = 65533 ∧ (decB (bs.drop k.toNat)).2 < 3 then (0, 0) else decB (bs.drop k.toNat)

theorem next_out (a : Option Addr) (n cap : Nat) (k : Int) (w : World) (hn : n ≤ 9223372036854775807) (h : k < 0 ∨ 0 ≤ k ∧ (n : Int) ≤ k) :
    Calls Tryd.prog 13 #[.slice a n cap, .int .i64 k] w fun e w' => e = .returned (.tuple #[.int .i32 0, .int .i64 0]) ∧ w = w' := by
  rcases h with h | ⟨h, h1⟩
  all_goals
    go_enter Tryd.func13, Tryd.ntmps13
    go_wp2
    go_ret2
    exact ⟨rfl, rfl⟩

theorem next_in (b o n cap k : Nat) (bs : List UInt8) (w : World) (hl : bs.length = n) (hn : n ≤ 9223372036854775807) (hcap : n ≤ cap) (hk : k < n)
    (hc : ∀ i c, bs[i]? = some c → w.cell? ⟨b, o + i, none⟩ = some (.int .u8 (byt c))) (hT : Tabs w) :
    Calls Tryd.prog 13 #[.slice (some ⟨b, o, none⟩) n cap, .int .i64 k] w fun e w' => e = .returned (.tuple #[.int .i32 (nextP bs k).1, .int .i64 (nextP bs k).2]) ∧ Below w.heap.size w w' := by
  have hD := decode_any b (o + k) (n - k) (cap - k) (bs.drop k) w (by rw [List.length_drop, hl]) (by omega) (by omega) (fun i c hi => by
    rw [List.getElem?_drop] at hi
    rw [Nat.add_assoc]; exact hc _ c hi) hT
  have hN : nextP bs k = if (decB (bs.drop k)).1 = 65533 ∧ (decB (bs.drop k)).2 < 3 then (0, 0) else decB (bs.drop k) := by
    unfold nextP
    rw [if_neg (by omega), Int.toNat_natCast]
  generalize decB (bs.drop k) = d at hD hN
  obtain ⟨R, K⟩ := d
  simp only at hD hN
  have HD := Lib.hid hD
  clear hD hc hT hl
  by_cases h1 : R = 65533
  · by_cases h2 : K < 3
    · rw [if_pos ⟨h1, h2⟩] at hN
      rw [hN]
      subst h1
      clear hN
      go_enter Tryd.func13, Tryd.ntmps13
      go_wp2_with (go_at_call 37; refine HD.out.mono ?_; rintro e w1 ⟨rfl, hb1⟩)
      go_ret2
      exact ⟨rfl, hb1⟩
    · rw [if_neg (fun h => h2 h.2)] at hN
      rw [hN]
      subst h1
      clear hN
      go_enter Tryd.func13, Tryd.ntmps13
      go_wp2_with (go_at_call 37; refine HD.out.mono ?_; rintro e w1 ⟨rfl, hb1⟩)
      go_ret2
      exact ⟨rfl, hb1⟩
  · rw [if_neg (fun h => h1 h.1)] at hN
    rw [hN]
    have h3 : (R == 65533) = false := beq_eq_false_iff_ne.2 h1
    clear hN h1
    go_enter Tryd.func13, Tryd.ntmps13
    go_wp2_with (go_at_call 37; refine HD.out.mono ?_; rintro e w1 ⟨rfl, hb1⟩)
    go_ret2
    exact ⟨rfl, hb1⟩

theorem next_any (a : Option Addr) (n cap : Nat) (k : Int) (bs : List UInt8) (w : World) (hl : bs.length = n) (hn : n ≤ 9223372036854775807) (hcap : n ≤ cap) (hb : Bytes w a bs) (hT : Tabs w) :
    Calls Tryd.prog 13 #[.slice a n cap, .int .i64 k] w fun e w' => e = .returned (.tuple #[.int .i32 (nextP bs k).1, .int .i64 (nextP bs k).2]) ∧ Below w.heap.size w w' := by
  by_cases h : k < 0 ∨ (n : Int) ≤ k
  · have e : nextP bs k = (0, 0) := by unfold nextP; rw [if_pos (by omega)]
    rw [e]
    exact (next_out a n cap k w hn (by omega)).mono fun e w' h => ⟨h.1, by rw [← h.2]; exact Below.refl _ _⟩
  · obtain ⟨m, rfl⟩ := Int.eq_ofNat_of_zero_le (by omega : 0 ≤ k)
    rcases hb with rfl | ⟨b, o, rfl, hc⟩
    · simp at hl; omega
    · exact next_in b o n cap m bs w hl hn hcap (by omega) hc hT
end Go.Proofs.YthbjibgfhagonaaDoor
