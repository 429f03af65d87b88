/- The same bytes, a copy of bytes: what the calls compute, for all bytes. -/
import Derived.Test.YtgapahmjcladlaaProg
import Derived.Test.YtgapahmjcladlaaBytes
import Derived.Deep.QuietTactic
import Derived.BigQuiet
namespace Go.Proofs.Ytgapahmjcladlaa
open Go.RowKit
set_option linter.unusedVariables false

theorem Below.drewN {B : Nat} {a w : World} (h : Below B a w) (n : Nat) : Below B a (w.drewN n) := ⟨h.os, h.tape, h.output, h.size, h.block⟩
theorem take_succ_eq {us vs : List UInt8} {k : Nat} (hk : k < us.length) (hl : us.length = vs.length) (h : us.take k = vs.take k) (he : us[k]? = vs[k]?) : us.take (k + 1) = vs.take (k + 1) := by
  have h1 : k < vs.length := by omega
  rw [List.take_add_one, List.take_add_one, h, he]
theorem at_some {us : List UInt8} {k : Nat} (hk : k < us.length) : ∃ c, us[k]? = some c := ⟨us[k], by simp [hk]⟩

set_option maxHeartbeats 1000000 in
theorem same_eqlen (b o c p n ca cb : Nat) (us vs : List UInt8) (w : World) (hu : us.length = n) (hv : vs.length = n) (hn : n ≤ 1099511627776)
    (hb : ∀ i x, us[i]? = some x → w.cell? ⟨b, o + i, none⟩ = some (.int .u8 (byt x))) (hd : ∀ i x, vs[i]? = some x → w.cell? ⟨c, p + i, none⟩ = some (.int .u8 (byt x))) :
    Calls Try.prog 11 #[.slice (some ⟨b, o, none⟩) n ca, .slice (some ⟨c, p, none⟩) n cb] w fun e w' => e = .returned (.bool (decide (us = vs))) ∧ Below w.heap.size w w' := by
  have HU := Lib.hid hu; have HV := Lib.hid hv; have HB := Lib.hid hb; have HD := Lib.hid hd
  have H0 : Hid (us.take 0 = vs.take 0) := Lib.hid rfl
  obtain ⟨res, hres⟩ : ∃ res, res = decide (us = vs) := ⟨_, rfl⟩
  rw [← hres]
  have HR := Lib.hid hres
  clear hu hv hb hd hres
  go_enter Try.func11, Try.ntmps11
  go_wp2
  go_loopw [5] (fun i wr => ∃ k : Nat, k ≤ n ∧ i = .int .i64 k ∧ Hid (us.take k = vs.take k) ∧ Below w.heap.size w wr) (fun i _ => n - (intOf i).toNat)
  case atStart => exact ⟨0, by omega, rfl, H0, Below.refl _ _⟩
  case round =>
    clear H0
    obtain ⟨k, hk, rfl, hT, hbw⟩ := hrel
    by_cases hlt : k < n
    · obtain ⟨x, hx⟩ := at_some (us := us) (k := k) (by rw [HU.out]; exact hlt)
      obtain ⟨y, hy⟩ := at_some (us := vs) (k := k) (by rw [HV.out]; exact hlt)
      have c1 : wr.cell? ⟨b, o + k, none⟩ = some (.int .u8 (byt x)) := by
        rw [hbw.cell (block_lt_of_cell (HB.out k x hx))]; exact HB.out k x hx
      have c2 : wr.cell? ⟨c, p + k, none⟩ = some (.int .u8 (byt y)) := by
        rw [hbw.cell (block_lt_of_cell (HD.out k y hy))]; exact HD.out k y hy
      have i1 : (0 : Int) ≤ (k : Int) := by omega
      have i2 : (k : Int) < (n : Int) := by omega
      have HX := Lib.hid hx; have HY := Lib.hid hy
      clear hx hy
      by_cases hxy : x = y
      · have e1 : (byt x != byt y) = false := by rw [hxy]; simp
        have HE := Lib.hid hxy
        clear hxy
        go_wp2
        go_quiet (fail)
        go_wp2
        go_roundw
        case rel => exact ⟨k + 1, by omega, by simp, Lib.hid (take_succ_eq (by rw [HU.out]; exact hlt) (by rw [HU.out, HV.out]) hT.out (by rw [HX.out, HY.out, HE.out])), Below.drewN hbw _⟩
        case measure => simp [intOf]; omega
      · have e1 : (byt x != byt y) = true := by rw [bne_iff_ne]; exact fun h => hxy (byt_inj h)
        have e2 : res = false := by
          rw [HR.out]
          refine decide_eq_false fun h => hxy ?_
          have := HX.out
          rw [h, HY.out] at this
          exact (Option.some.inj this).symm
        clear hxy
        go_wp2
        go_quiet (fail)
        go_wp2
        go_ret
        exact ⟨by rw [e2]; rfl, Below.drewN hbw _⟩
    · have e2 : res = true := by
        rw [HR.out]
        refine decide_eq_true ?_
        have := hT.out
        rw [List.take_of_length_le (by rw [HU.out]; omega), List.take_of_length_le (by rw [HV.out]; omega)] at this
        exact this
      go_wp2
      go_ret
      exact ⟨by rw [e2]; rfl, hbw⟩

theorem same_any (a c : Option Addr) (n m ca cb : Nat) (us vs : List UInt8) (w : World) (hu : us.length = n) (hv : vs.length = m) (hn : n ≤ 1099511627776) (hm : m ≤ 1099511627776) (hb : Bytes w a us) (hd : Bytes w c vs) :
    Calls Try.prog 11 #[.slice a n ca, .slice c m cb] w fun e w' => e = .returned (.bool (decide (us = vs))) ∧ Below w.heap.size w w' := by
  by_cases h : n = m
  · subst h
    rcases hb with rfl | ⟨b, o, rfl, hb⟩
    · have h0 : n = 0 := by rw [← hu]; rfl
      subst h0
      have h1 : vs = [] := List.length_eq_zero_iff.1 hv
      subst h1
      clear hd hu hv
      go_enter Try.func11, Try.ntmps11
      go_wp2
      refine wp_loop_rounds 1 ?_
      rw [rounds_succ]
      go_wp2
      go_ret
      exact ⟨rfl, Below.refl _ _⟩
    · rcases hd with rfl | ⟨c, p, rfl, hd⟩
      · have h0 : n = 0 := by rw [← hv]; rfl
        subst h0
        have h1 : us = [] := List.length_eq_zero_iff.1 hu
        subst h1
        clear hu hv
        go_enter Try.func11, Try.ntmps11
        go_wp2
        refine wp_loop_rounds 1 ?_
        rw [rounds_succ]
        go_wp2
        go_ret
        exact ⟨rfl, Below.refl _ _⟩
      · exact same_eqlen b o c p n ca cb us vs w hu hv hn hb hd
  · have e1 : decide (us = vs) = false := decide_eq_false fun e => h (by rw [← hu, ← hv, e])
    rw [e1]
    have e2 : ((n : Int) != (m : Int)) = true := by rw [bne_iff_ne]; omega
    clear hb hd hu hv e1
    go_enter Try.func11, Try.ntmps11
    go_wp2
    go_ret
    exact ⟨rfl, Below.refl _ _⟩

theorem info5 : (Try.prog.info? 5).map (fun i => (i.zero, i.size, i.bytes)) = some (some (.int .u8 0), 1, 1) := by kernel_rfl
end Go.Proofs.Ytgapahmjcladlaa
