/- Where a sign lies first: both calls at any place. -/
import Derived.Test.YtgapahmjcladlaaFirst
namespace Go.Proofs.Ytgapahmjcladlaa
open Go.RowKit
set_option linter.unusedVariables false

theorem first_out (a : Option Addr) (n cap v : Nat) (fr : Int) (hn : n ≤ 100000) (hf : (n : Int) < fr) (w : World) :
    Calls Try.prog 13 #[.slice a n cap, .int .i64 fr, .int .u32 v] w fun e w' => e = .returned (.int .i64 (-1)) ∧ w' = w := by
  have hmx : max fr 0 = fr := by omega
  go_enter Try.func13, Try.ntmps13
  go_wp2
  go_ret
  exact ⟨rfl, rfl⟩
theorem first_any (a : Option Addr) (n cap v : Nat) (fr : Int) (bs : List UInt8) (hl : bs.length = n) (hn : n ≤ 100000) (hcap : n ≤ cap) (hnil : a = none → n = 0 ∧ cap = 0) (hv : v < 4294967296) (w : World) (hb : Bytes w a bs) (hT : Tab w) :
    Calls Try.prog 13 #[.slice a n cap, .int .i64 fr, .int .u32 v] w fun e w' => (∃ r, e = .returned (.int .i64 r) ∧ FirstIs bs (max fr 0).toNat (leB v 4) r) ∧ Below w.heap.size w w' := by
  by_cases h : (n : Int) < fr
  · refine (first_out a n cap v fr hn h w).mono fun e w' h2 => ⟨⟨-1, h2.1, .inl ⟨rfl, fun i hi ha => ?_⟩⟩, by rw [h2.2]; exact Below.refl _ _⟩
    have := ha.1
    rw [hl] at this
    omega
  · exact first_at a n cap (max fr 0).toNat v fr (by omega) bs hl hn hcap hnil hv (by omega) w hb hT
theorem at_num {bs : List UInt8} {p v : Nat} (hv : v < 4294967296) (h : p + 4 ≤ bs.length) : numV bs p 4 = v ↔ atS bs p (leB v 4) := by
  have hf : fits bs.length p (4 : Nat) := ⟨by omega, by omega, by omega, by omega⟩
  have hl : ((bs.drop p).take 4).length = 4 := by rw [List.length_take, List.length_drop]; omega
  unfold numV
  rw [if_pos hf, Int.toNat_natCast]
  constructor
  · intro e
    refine ⟨h, ?_⟩
    have := leB_leV ((bs.drop p).take 4)
    rw [hl, e] at this
    exact this.symm
  · rintro ⟨_, e⟩
    rw [e]
    exact leV_leB v 4 (by omega)
theorem numV_lt (bs : List UInt8) (p : Int) (k : Nat) : numV bs p k < 256 ^ k := by
  unfold numV
  split
  · have h1 := leV_lt ((bs.drop p.toNat).take k)
    have h2 : ((bs.drop p.toNat).take k).length ≤ k := by rw [List.length_take]; omega
    exact Nat.lt_of_lt_of_le h1 (Nat.pow_le_pow_right (by omega) h2)
  · exact Nat.pow_pos (by omega)

set_option maxHeartbeats 1000000 in
theorem refFirst_any (a : Option Addr) (n cap v : Nat) (fr : Int) (bs : List UInt8) (hl : bs.length = n) (hn : n ≤ 100000) (hfr : fr ≤ 9223372036854775807) (hv : v < 4294967296) (w : World) (hb : Bytes w a bs) :
    Calls Try.prog 19 #[.slice a n cap, .int .i64 fr, .int .u32 v] w fun e w' => (∃ r, e = .returned (.int .i64 r) ∧ FirstIs bs (max fr 0).toNat (leB v 4) r) ∧ w' = w := by
  have HL := Lib.hid hl; have HB := Lib.hid hb
  obtain ⟨f, hf⟩ : ∃ f : Nat, max fr 0 = f := ⟨(max fr 0).toNat, by omega⟩
  have HF : Hid ((max fr 0).toNat = f) := by unfold Hid; omega
  rw [HF.out]
  have hff : f ≤ 9223372036854775807 := by omega
  clear hl hb
  go_enter Try.func19, Try.ntmps19
  go_wp2_with fail
  go_loopw [7] (fun i wr => ∃ k : Nat, f ≤ k ∧ k ≤ 9223372036854775807 ∧ i = .int .i64 k ∧ Hid (∀ i, f ≤ i → i < k → ¬ atS bs i (leB v 4)) ∧ wr = w) (fun i _ => n + 1 - (intOf i).toNat)
  case atStart => exact ⟨f, by omega, hff, rfl, Lib.hid (fun i h1 h2 => by omega), rfl⟩
  case round =>
    obtain ⟨k, hk, hk2, rfl, hno, rfl⟩ := hrel
    by_cases hlt : k + 4 ≤ n
    · have i1 : (k : Int) ≤ (n : Int) - 4 := by omega
      have HN := Lib.hid (at_num (bs := bs) (p := k) hv (by rw [HL.out]; exact hlt))
      have HLT := Lib.hid (numV_lt bs k 4)
      have HFT : Hid (decide (fits n (k : Int) (4 : Nat)) = true) := decide_eq_true ⟨by omega, by omega, by omega, by omega⟩
      have HC := Lib.hid (refNumber_any a n cap k 4 (by omega) bs HL.out (by omega) wr HB.out)
      generalize numV bs (k : Int) 4 = V at HN HLT HC
      rw [HFT.out] at HC
      have hV : V < 4294967296 := HLT.out
      go_wp2_with fail
      refine HC.out.mono ?_
      rintro e w1 ⟨rfl, rfl⟩
      have hw : IntKind.u32.wrap (V : Int) = (V : Int) := by
        have e4 : IntKind.u32.signed = false := rfl
        simp only [IntKind.wrap, IntKind.bits, e4]; simp; omega
      by_cases he : V = v
      · have hat := HN.out.1 he
        have hee : ((V : Int) == (v : Int)) = true := by rw [he]; simp
        have HAT := Lib.hid hat
        clear hat he
        go_wp2_with fail
        go_ret
        exact ⟨⟨k, rfl, .inr ⟨k, rfl, hk, HAT.out, hno.out⟩⟩, rfl⟩
      · have hat : Hid (¬ atS bs k (leB v 4)) := fun h => he (HN.out.2 h)
        have hee : ((V : Int) == (v : Int)) = false := by rw [beq_eq_false_iff_ne]; omega
        clear he
        go_wp2_with fail
        go_roundw
        case rel => exact ⟨k + 1, by omega, by omega, by simp, Lib.hid (fun i h1 h2 => by
          by_cases h : i < k
          · exact hno.out i h1 h
          · have : i = k := by omega
            rw [this]; exact hat.out), trivial⟩
        case measure => simp [intOf]; omega
    · have i1 : ¬ (k : Int) ≤ (n : Int) - 4 := by omega
      have HR : Hid (FirstIs bs f (leB v 4) (-1)) := .inl ⟨rfl, fun i h1 ha => by
        by_cases h : i < k
        · exact hno.out i h1 h ha
        · have := ha.1; rw [HL.out] at this; omega⟩
      clear hno
      go_wp2_with fail
      go_ret
      exact ⟨⟨-1, rfl, HR.out⟩, rfl⟩
end Go.Proofs.Ytgapahmjcladlaa
