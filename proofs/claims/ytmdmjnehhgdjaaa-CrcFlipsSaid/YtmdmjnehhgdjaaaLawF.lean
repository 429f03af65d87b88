/- The walk of CrcFlips: it returns true for all bytes, every place and every burst. -/
import Derived.Test.YtmdmjnehhgdjaaaApp
namespace Go.Proofs.Ytmdmjnehhgdjaaa
open Go.RowKit Math Go.Sort

theorem bits_byt (c d : UInt8) : bits .xor .u8 (byt c) (byt d) = byt (c ^^^ d) := by
  unfold byt
  rw [u8_xor_nat _ _ c.toNat_lt d.toNat_lt, UInt8.toNat_xor]

attribute [local go_sem] bits_byt bits_xor bits_and bits_and_one bits_and_poly bits_xor_poly bits_not bits_not' signed_u32 num_shr num_half num_div256 num_neg bits_idx bits_idx' conv_byt

set_option maxHeartbeats 400000 in
theorem lawF_out (a : Option Addr) (l ca : Nat) (s : Int) (x : B32) (_hs : s ≤ 9223372036854775807) (hl : l ≤ 9223372036854775807) (w : World)
    (hx : 3000 < l ∨ l < 5 ∨ l ≤ 3000 ∧ 5 ≤ l ∧ s < 0 ∨ l ≤ 3000 ∧ 5 ≤ l ∧ 0 ≤ s ∧ 8 * ((l : Int) - 4) ≤ s ∨ l ≤ 3000 ∧ 5 ≤ l ∧ 0 ≤ s ∧ s < 8 * ((l : Int) - 4) ∧ x = 0#32) :
    Calls Try.prog 5 #[.slice a l ca, .int .i64 s, .int .u32 (num x)] w fun e w' => e = .returned (.bool true) ∧ Below w.heap.size w w' := by
  rcases hx with h1 | h1 | ⟨h1, h2, h3⟩ | ⟨h1, h2, h3, h4⟩ | ⟨h1, h2, h3, h4, h5⟩
  case' inr.inr.inr.inr => have h6 : (num x == 0) = true := by rw [h5]; rfl
  case' inr.inr.inr.inr => clear h5
  all_goals
    go_enter Try.func5, Try.ntmps5
    go_wp2_with (go_at_call 8; refine (alive_any _).mono ?_; rintro e w1 ⟨rfl, hb1⟩)
    go_ret
    exact ⟨rfl, hb1⟩

theorem modify_set {α : Type} (l : List α) (i : Nat) (c : α) (f : α → α) (h : l[i]? = some c) : l.modify i f = l.set i (f c) := by
  apply List.ext_getElem?
  intro j
  rw [List.getElem?_modify, List.getElem?_set]
  by_cases hij : i = j
  · subst hij
    have hi : i < l.length := by
      rcases Nat.lt_or_ge i l.length with h1 | h1
      · exact h1
      · rw [List.getElem?_eq_none h1] at h; simp at h
    rw [h]; simp [hi]
  · simp [hij]
theorem pow_byt (t : Nat) (h : t < 8) : (2 : Int) ^ t % 256 = byt ((1 : UInt8) <<< UInt8.ofNat t) := by
  have : t = 0 ∨ t = 1 ∨ t = 2 ∨ t = 3 ∨ t = 4 ∨ t = 5 ∨ t = 6 ∨ t = 7 := by omega
  rcases this with h | h | h | h | h | h | h | h <;> subst h <;> rfl
theorem sum_at (a : Option Addr) (bs : List UInt8) (n cap : Nat) (hl : bs.length = n) (hn : n ≤ 9223372036854775807) (w : World) (hb : Bytes w a bs) :
    Calls Try.prog 9 #[.slice a n cap] w fun e w' => e = .returned (.int .u32 (num (sum bs))) ∧ Below w.heap.size w w' := by
  subst hl
  exact sum_any a bs cap hn w hb
theorem info5 : (Try.prog.info? 5).map (fun i => (i.zero, i.size, i.bytes)) = some (some (.int .u8 0), 1, 1) := by kernel_rfl

set_option maxHeartbeats 1000000 in
theorem lawF_in (bs : List UInt8) (a : Option Addr) (n ca s : Nat) (x : B32) (hn : bs.length = n) (h1 : n ≤ 3000) (h2 : 5 ≤ n) (h3 : s + 32 < 8 * n) (hx0 : x ≠ 0#32) (w : World) (ha : Bytes w a bs) :
    Calls Try.prog 5 #[.slice a n ca, .int .i64 s, .int .u32 (num x)] w fun e w' => e = .returned (.bool true) ∧ Below w.heap.size w w' := by
  rcases ha with rfl | ⟨b, o, rfl, hc⟩
  · simp at hn; omega
  have HN := Lib.hid hn; have HA := Lib.hid hc
  have h5 : (num x == 0) = false := by rw [beq_eq_false_iff_ne]; intro h; exact hx0 (num_inj h)
  have HX := Lib.hid hx0
  clear hn hc hx0
  go_enter Try.func5, Try.ntmps5
  go_wp2_with (first
    | (go_at_call 8; refine (alive_any _).mono ?_; rintro e w1 ⟨rfl, hb1⟩)
    | (at_builtin; refine wpList_append_bytes rfl (.tmp 35) (.tmp 36) 22 5 rfl Try.underlying22 info5 w1.heap.size _ [] bs (some ⟨b, o, none⟩) n ca rfl (OwnB.empty w1 5) rfl HN.out ?c1 ?c2 ?c3 ?c4 ?_))
  case c1 => exact Bytes.below (Bytes.below (.inr ⟨_, _, rfl, HA.out⟩) hb1) ((Below.refl _ _).alloc (Nat.le_refl _) _)
  case c2 => intro h; simp at h
  case c3 => rw [HN.out]; simp; omega
  case c4 => simp
  intro v' w2 hown _ hb2
  obtain ⟨g, cap, rfl, hg⟩ := hown.form (by rw [HN.out]; omega)
  rw [HN.out] at hown ⊢
  have hG : w.heap.size ≤ g := Nat.le_trans hb1.size hg
  have hbb : Below w.heap.size w w2 := (hb1.alloc hb1.size _).trans (hb2.mono hb1.size)
  clear hb2 hg
  obtain ⟨B, hB⟩ : ∃ B, B = w1.heap.size := ⟨_, rfl⟩
  rw [← hB] at hown ⊢
  clear hB hb1
  go_wp2
  go_loopw [8] (fun i wr => ∃ k : Nat, k ≤ 32 ∧ i = .int .i64 k ∧ OwnB wr B 5 (.slice (some ⟨g, 0, none⟩) n cap) (flips bs s x.toNat k) ∧ Below w.heap.size w wr) (fun i _ => 32 - (intOf i).toNat)
  case atStart => exact ⟨0, by omega, rfl, hown, hbb⟩
  case round =>
    clear hown hbb
    obtain ⟨k, hk, rfl, hown, hbw⟩ := hrel
    by_cases hlt : k < 32
    · have hfl : (flips bs s x.toNat k).length = n := by rw [flips_length, HN.out]
      by_cases hbit : x.toNat.testBit k = true
      · have hA : num (A (R x k) 1#32) = 1 := by rw [bit_one _ (by unfold R; rw [BitVec.getLsbD_ushiftRight]; exact hbit)]; rfl
        obtain ⟨c, hc⟩ : ∃ c, (flips bs s x.toNat k)[(s + k) / 8]? = some c := ⟨(flips bs s x.toNat k)[(s + k) / 8]'(by rw [hfl]; omega), List.getElem?_eq_getElem _⟩
        have hcell := hown.cell hfl hc
        unfold bval at hcell
        have hfr := hown.frozen hfl ((s + k) / 8)
        have H1 := Lib.hid hbit; have H2 := Lib.hid hc; have H3 := Lib.hid hown; have H4 := Lib.hid hfl
        clear hbit hc hown hfl
        go_wp2
        go_roundw
        case rel =>
          have e : bits .xor .u8 (byt c) (2 ^ ((s + k) % 8) % 256) = byt (c ^^^ ((1 : UInt8) <<< UInt8.ofNat ((s + k) % 8))) := by rw [pow_byt _ (Nat.mod_lt _ (by decide)), bits_byt]
          rw [e]
          refine ⟨k + 1, by omega, by go_num, ?_, hbw.setCell hG _⟩
          rw [flips, if_pos H1.out, modify_set _ _ _ _ H2.out]
          exact OwnB.set H3.out H4.out _ _
        case measure => simp [intOf]; omega
      · have hA : num (A (R x k) 1#32) = 0 := by rw [bit_zero _ (by unfold R; rw [BitVec.getLsbD_ushiftRight]; exact (by simpa using hbit : x.toNat.testBit k = false))]; rfl
        have H1 := Lib.hid hbit; have H3 := Lib.hid hown
        clear hbit hown hfl
        go_wp2
        go_roundw
        case rel => exact ⟨k + 1, by omega, by go_num, by rw [flips, if_neg H1.out]; exact H3.out, hbw⟩
        case measure => simp [intOf]; omega
    · obtain rfl : k = 32 := by omega
      have hfl : (flips bs s x.toNat 32).length = n := by rw [flips_length, HN.out]
      have H1 := Lib.hid (Bytes.below (.inr ⟨_, _, rfl, HA.out⟩) hbw); have H2 := Lib.hid (OwnB.bytes hown hfl); have H3 := Lib.hid hfl
      clear hown hfl
      go_wp2_with fail
      refine (sum_at _ (flips bs s x.toNat 32) n cap H3.out (by omega) _ H2.out).mono ?_
      rintro e w3 ⟨rfl, hb3⟩
      go_wp2_with fail
      refine (sum_at _ bs n ca HN.out (by omega) _ (Bytes.below H1.out hb3)).mono ?_
      rintro e w4 ⟨rfl, hb4⟩
      have hs : (num (sum (flips bs s x.toNat 32)) != num (sum bs)) = true := by
        rw [bne_iff_ne]
        intro h
        exact flips_sum bs s x.toNat (by rw [HN.out]; omega) (fun h => HX.out (BitVec.eq_of_toNat_eq h)) x.isLt (num_inj h)
      go_wp2_with fail
      go_ret
      refine ⟨rfl, ?_⟩
      have b3 := hbw.trans (hb3.mono hbw.size)
      exact b3.trans (hb4.mono b3.size)

theorem lawF (bs : List UInt8) (a : Option Addr) (ca : Nat) (s : Int) (x : B32) (hl : bs.length ≤ 9223372036854775807) (hs : s ≤ 9223372036854775807) (w : World) (ha : Bytes w a bs) :
    Calls Try.prog 5 #[.slice a bs.length ca, .int .i64 s, .int .u32 (num x)] w fun e w' => e = .returned (.bool true) ∧ Below w.heap.size w w' := by
  by_cases h : bs.length ≤ 3000 ∧ 5 ≤ bs.length ∧ 0 ≤ s ∧ s < 8 * ((bs.length : Int) - 4)
  · obtain ⟨g1, g2, g3, g4⟩ := h
    by_cases hx : x = 0#32
    · exact lawF_out a _ ca s x hs hl w (.inr (.inr (.inr (.inr ⟨g1, g2, g3, g4, hx⟩))))
    · obtain ⟨m, rfl⟩ := Int.eq_ofNat_of_zero_le g3
      exact lawF_in bs a bs.length ca m x rfl g1 g2 (by omega) hx w ha
  · have h' : 3000 < bs.length ∨ bs.length < 5 ∨ bs.length ≤ 3000 ∧ 5 ≤ bs.length ∧ s < 0 ∨ bs.length ≤ 3000 ∧ 5 ≤ bs.length ∧ 0 ≤ s ∧ 8 * ((bs.length : Int) - 4) ≤ s := by omega
    refine lawF_out a _ ca s x hs hl w ?_
    rcases h' with h | h | h | h
    · exact .inl h
    · exact .inr (.inl h)
    · exact .inr (.inr (.inl h))
    · exact .inr (.inr (.inr (.inl h)))
end Go.Proofs.Ytmdmjnehhgdjaaa
