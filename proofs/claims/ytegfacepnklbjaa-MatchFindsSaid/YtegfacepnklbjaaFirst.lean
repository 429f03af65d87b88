/- The first place from which four bytes stood ahead: none, where no three come again. -/
import Derived.Test.YtegfacepnklbjaaFuns
namespace Go.Proofs.Ytegfacepnklbjaa
open Go.RowKit
set_option linter.unusedVariables false

set_option maxHeartbeats 1000000 in
theorem refBack_at (b o n cap q d m : Nat) (bs : List UInt8) (hl : bs.length = n) (hn : n ≤ 1099511627776) (hm : m ≤ 1099511627776) (hp : q + d < n) (hd : 1 ≤ d) (w : World) (hb : Lie w b o bs) :
    Calls Try.prog 19 #[.slice (some ⟨b, o, none⟩) n cap, .int .i64 ((q + d : Nat) : Int), .int .i64 d, .int .i64 m] w fun e w' => (∃ k : Nat, e = .returned (.int .i64 k) ∧ Back bs (q + d) d m k) ∧ Below w.heap.size w w' := by
  have HL := Lib.hid hl; have HB := Lib.hid hb
  clear hl hb
  obtain ⟨r, hr⟩ : ∃ r, n = q + d + r := ⟨n - (q + d), by omega⟩
  subst hr
  go_enter Try.func19, Try.ntmps19
  go_wp2_with fail
  go_loopw [9] (fun i wr => ∃ k : Nat, k ≤ m ∧ k ≤ r ∧ i = .int .i64 k ∧ Hid (∀ j, j < k → bs[q + d + j]? = bs[q + d + j - d]?) ∧ Below w.heap.size w wr) (fun i _ => r - (intOf i).toNat)
  case atStart => exact ⟨0, by omega, by omega, rfl, Lib.hid (fun j h => by omega), Below.refl _ _⟩
  case round =>
    obtain ⟨k, hk, hkr, rfl, hT, hbw⟩ := hrel
    have s1 : (q : Int) + d + k - d = ((q + k : Nat) : Int) := by omega
    by_cases h1 : k < m
    · have i1 : (k : Int) < (m : Int) := by omega
      by_cases h2 : k < r
      · obtain ⟨x, hx⟩ := at_some (us := bs) (k := q + d + k) (by rw [HL.out]; omega)
        obtain ⟨y, hy⟩ := at_some (us := bs) (k := q + k) (by rw [HL.out]; omega)
        have c1 : wr.cell? ⟨b, o + (q + d + k), none⟩ = some (.int .u8 (byt x)) := HB.out.below hbw _ x hx
        have c2 : wr.cell? ⟨b, o + (q + k), none⟩ = some (.int .u8 (byt y)) := HB.out.below hbw _ y hy
        have hy' : bs[q + d + k - d]? = some y := by rw [show q + d + k - d = q + k by omega]; exact hy
        have HX := Lib.hid hx; have HY := Lib.hid hy'
        clear hx hy hy'
        by_cases hxy : x = y
        · have e1 : (byt x == byt y) = true := by rw [hxy]; simp
          have HE := Lib.hid hxy
          clear hxy
          go_wp2
          go_quiet (fail)
          go_wp2
          go_roundw
          case rel => exact ⟨k + 1, by omega, by omega, by simp, Lib.hid (fun j hj => by
            by_cases h : j < k
            · exact hT.out j h
            · have : j = k := by omega
              subst this
              rw [HX.out, HY.out, HE.out]), Below.drewN hbw _⟩
          case measure => simp [intOf]; omega
        · have e1 : (byt x == byt y) = false := by rw [beq_eq_false_iff_ne]; exact fun h => hxy (byt_inj h)
          have HE := Lib.hid hxy
          clear hxy
          go_wp2
          go_quiet (fail)
          go_wp2
          go_ret
          exact ⟨⟨k, by simp, ⟨hk, by rw [HL.out]; omega, hT.out, .inr (.inr (by rw [HX.out, HY.out]; exact fun h => HE.out (Option.some.inj h)))⟩⟩, Below.drewN hbw _⟩
      · have hst : Hid (k = r) := by unfold Hid; omega
        go_wp2
        go_quiet (fail)
        go_wp2
        go_ret
        exact ⟨⟨k, by simp, ⟨hk, by rw [HL.out]; omega, hT.out, .inr (.inl (by rw [HL.out, hst.out]))⟩⟩, Below.drewN hbw _⟩
    · have hst : Hid (k = m) := by unfold Hid; omega
      go_wp2
      go_quiet (fail)
      go_wp2
      go_ret
      exact ⟨⟨k, by simp, ⟨hk, by rw [HL.out]; omega, hT.out, .inl hst.out⟩⟩, Below.drewN hbw _⟩

theorem no_four {bs : List UInt8} {q d k : Nat} (h : ∀ p, ¬ Again bs p) (hd : 1 ≤ d) (hk : Back bs (q + d) d 4 k) (hf : q + d + 4 ≤ bs.length) : k ≠ 4 := by
  intro e
  subst e
  refine h (q + d) ⟨by omega, q, by omega, fun i hi => ?_⟩
  rw [hk.eq i (by omega)]
  congr 1; omega

set_option maxHeartbeats 1000000 in
theorem first_none (b o n cap : Nat) (bs : List UInt8) (hl : bs.length = n) (hn : n ≤ 1099511627776) (w : World) (hb : Lie w b o bs) (hno : ∀ p, ¬ Again bs p) :
    Calls Try.prog 12 #[.slice (some ⟨b, o, none⟩) n cap] w fun e w' => e = .returned (.int .i64 (-1)) ∧ Below w.heap.size w w' := by
  have HL := Lib.hid hl; have HB := Lib.hid hb; have HN := Lib.hid hno
  clear hl hb hno
  go_enter Try.func12, Try.ntmps12
  go_wp2_with fail
  go_loopw [3] (fun i wr => ∃ p : Nat, 1 ≤ p ∧ p ≤ n + 1 ∧ i = .int .i64 p ∧ Below w.heap.size w wr) (fun i _ => n + 1 - (intOf i).toNat)
  case atStart => exact ⟨1, by omega, by omega, rfl, Below.refl _ _⟩
  case round =>
    obtain ⟨p, hp, hpn, rfl, hbw⟩ := hrel
    obtain ⟨W1, rfl⟩ : ∃ x, x = wr := ⟨_, rfl⟩
    by_cases h4 : p + 4 ≤ n
    · have i1 : (p : Int) + 4 ≤ (n : Int) := by omega
      go_wp2
      go_loopw [4] (fun i wr => ∃ d : Nat, 1 ≤ d ∧ d ≤ p + 1 ∧ i = .int .i64 d ∧ Below w.heap.size w wr) (fun i _ => p + 1 - (intOf i).toNat)
      case atStart => exact ⟨1, by omega, by omega, rfl, hbw⟩
      case round =>
        clear hbw
        obtain ⟨d, hd, hdp, rfl, hbw⟩ := hrel
        by_cases h5 : d ≤ p ∧ d ≤ 32768
        · obtain ⟨h6, h7⟩ := h5
          go_wp2_with fail
          obtain ⟨q, hq⟩ : ∃ q, p = q + d := ⟨p - d, by omega⟩
          have hcall := refBack_at b o n cap q d 4 bs HL.out hn (by omega) (by omega) hd wr (HB.out.below hbw)
          rw [← hq] at hcall
          refine hcall.mono ?_
          rintro e w2 ⟨⟨k, rfl, hk⟩, hb2⟩
          have hk4 : k ≠ 4 := no_four (q := q) HN.out hd (by rw [← hq]; exact hk) (by rw [HL.out]; omega)
          have hk5 : ((k : Int) == 4) = false := by rw [beq_eq_false_iff_ne]; omega
          have HB2 := Lib.hid hb2
          clear hk hk4 hcall hq hb2
          go_wp2_with fail
          go_roundw
          case rel => exact ⟨d + 1, by omega, by omega, by simp, hbw.trans (HB2.out.mono hbw.size)⟩
          case measure => simp [intOf]; omega
        · by_cases h6 : d ≤ p
          · have h7 : 32768 < d := by omega
            clear h5
            go_wp2
            go_roundw
            case rel => exact ⟨p + 1, by omega, by omega, by simp, hbw⟩
            case measure => simp [intOf]; omega
          · clear h5
            go_wp2
            go_roundw
            case rel => exact ⟨p + 1, by omega, by omega, by simp, hbw⟩
            case measure => simp [intOf]; omega
    · have i1 : ¬ (p : Int) + 4 ≤ (n : Int) := by omega
      go_wp2
      go_ret
      exact ⟨rfl, hbw⟩
end Go.Proofs.Ytegfacepnklbjaa
