/- How many bytes are those so far back; is a token one; the levels' efforts: what the calls compute. -/
import Derived.Test.YtegfacepnklbjaaSame
namespace Go.Proofs.Ytegfacepnklbjaa
open Go.RowKit
set_option linter.unusedVariables false

/-- Bytes that lie in a block. -/
def Lie (w : World) (b o : Nat) (bs : List UInt8) : Prop := ∀ i c, bs[i]? = some c → w.cell? ⟨b, o + i, none⟩ = some (.int .u8 (byt c))
theorem Lie.below {w w' : World} {b o : Nat} {bs : List UInt8} (h : Lie w b o bs) (hb : Below w.heap.size w w') : Lie w' b o bs := fun i c hi => by
  have h1 := h i c hi
  rw [hb.cell (block_lt_of_cell h1)]; exact h1
/-- So many bytes are those so far back, and no more. -/
structure Back (bs : List UInt8) (p d m k : Nat) : Prop where
  le : k ≤ m
  fits : p + k ≤ bs.length
  eq : ∀ i, i < k → bs[p + i]? = bs[p + i - d]?
  stop : k = m ∨ p + k = bs.length ∨ bs[p + k]? ≠ bs[p + k - d]?

set_option maxHeartbeats 1000000 in
theorem back_at (b o n cap q d m : Nat) (bs : List UInt8) (hl : bs.length = n) (hn : n ≤ 1099511627776) (hcap : n ≤ cap) (hm : m ≤ 1099511627776) (hp : q + d < n) (hd : 1 ≤ d) (w : World) (hb : Lie w b o bs) :
    Calls Try.prog 14 #[.slice (some ⟨b, o, none⟩) n cap, .int .i64 ((q + d : Nat) : Int), .int .i64 d, .int .i64 m] w fun e w' => (∃ k : Nat, e = .returned (.int .i64 k) ∧ Back bs (q + d) d m k) ∧ Below w.heap.size w w' := by
  have HL := Lib.hid hl; have HB := Lib.hid hb
  clear hl hb
  obtain ⟨r, hr⟩ : ∃ r, n = q + d + r := ⟨n - (q + d), by omega⟩
  subst hr
  obtain ⟨M, hM, hMr, hMm, hMe⟩ : ∃ M : Nat, (if r < m then (r : Int) else (m : Int)) = (M : Int) ∧ M ≤ r ∧ M ≤ m ∧ (M = r ∨ M = m) := by
    by_cases h : r < m
    · exact ⟨r, by rw [if_pos h], by omega, by omega, .inl rfl⟩
    · exact ⟨m, by rw [if_neg h], by omega, by omega, .inr rfl⟩
  have HM := Lib.hid hMe
  clear hMe
  go_enter Try.func14, Try.ntmps14
  go_wp2_with fail
  go_quiet (fail)
  go_wp2_with fail
  go_loopw [11] (fun i wr => ∃ k : Nat, k ≤ M ∧ i = .int .i64 k ∧ Hid (∀ j, j < k → bs[q + d + j]? = bs[q + d + j - d]?) ∧ Below w.heap.size w wr) (fun i _ => r - (intOf i).toNat)
  case atStart => exact ⟨0, by omega, rfl, Lib.hid (fun j h => by omega), Below.drewN (Below.refl _ _) _⟩
  case round =>
    obtain ⟨k, hk, rfl, hT, hbw⟩ := hrel
    by_cases hlt : k < M
    · have h2 : k < r := by omega
      obtain ⟨x, hx⟩ := at_some (us := bs) (k := q + d + k) (by rw [HL.out]; omega)
      obtain ⟨y, hy⟩ := at_some (us := bs) (k := q + k) (by rw [HL.out]; omega)
      have c1 : wr.cell? ⟨b, o + (q + d) + k, none⟩ = some (.int .u8 (byt x)) := by
        have := HB.out.below hbw _ x hx
        rwa [← Nat.add_assoc] at this
      have c2 : wr.cell? ⟨b, o + q + k, none⟩ = some (.int .u8 (byt y)) := by
        have := HB.out.below hbw _ y hy
        rwa [← Nat.add_assoc] at this
      have hy' : bs[q + d + k - d]? = some y := by rw [show q + d + k - d = q + k by omega]; exact hy
      have HX := Lib.hid hx; have HY := Lib.hid hy'
      clear hx hy hy'
      have i5 : q + d + r - q = d + r := by omega
      by_cases hxy : x = y
      · have e1 : (byt x == byt y) = true := by rw [hxy]; simp
        have HE := Lib.hid hxy
        clear hxy
        go_wp2
        go_quiet (fail)
        go_wp2
        go_roundw
        case rel => exact ⟨k + 1, by omega, by simp, Lib.hid (fun j hj => by
          by_cases h : j < k
          · exact hT.out j h
          · have : j = k := by omega
            subst this
            rw [HX.out, HY.out, HE.out]), Below.drewN hbw _⟩
        case measure => simp [intOf]; omega
      · have e1 : (byt x == byt y) = false := by rw [beq_eq_false_iff_ne]; exact fun h => hxy (byt_inj h)
        have HE := Lib.hid hxy
        clear hxy
        go_wp2
        go_quiet (fail)
        go_wp2
        go_ret
        exact ⟨⟨k, by simp, ⟨by omega, by rw [HL.out]; omega, hT.out, .inr (.inr (by rw [HX.out, HY.out]; exact fun h => HE.out (Option.some.inj h)))⟩⟩, Below.drewN hbw _⟩
    · have hst : Hid (k = m ∨ k = r) := by have := HM.out; unfold Hid; omega
      go_wp2
      go_quiet (fail)
      go_wp2
      go_ret
      exact ⟨⟨k, by simp, ⟨by omega, by rw [HL.out]; omega, hT.out, by
        rcases hst.out with h | h
        · exact .inl h
        · exact .inr (.inl (by rw [HL.out, h]))⟩⟩, Below.drewN hbw _⟩
end Go.Proofs.Ytegfacepnklbjaa
