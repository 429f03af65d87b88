/- Three bytes as a number tell the bytes. No condition. -/
import Derived.Test.YtegfacepnklbjaaFin
namespace Go.Proofs.Ytegfacepnklbjaa
open Go.RowKit

theorem or_nat (a b : Nat) (ha : a < 4294967296) (hb : b < 4294967296) : bits BinOp.or IntKind.u32 (a : Int) (b : Int) = ((a ||| b : Nat) : Int) := by
  have h1 : (a ||| b) < 2 ^ 32 := Nat.or_lt_two_pow (by omega) (by omega)
  have e1 : BitVec.ofInt 32 (a : Int) = BitVec.ofNat 32 a := BitVec.ofInt_natCast 32 a
  have e2 : BitVec.ofInt 32 (b : Int) = BitVec.ofNat 32 b := BitVec.ofInt_natCast 32 b
  have e3 : (BitVec.ofNat 32 a ||| BitVec.ofNat 32 b).toNat = a ||| b := by
    rw [BitVec.toNat_or, BitVec.toNat_ofNat, BitVec.toNat_ofNat, Nat.mod_eq_of_lt (by omega), Nat.mod_eq_of_lt (by omega)]
  show IntKind.u32.wrap ((BitVec.ofInt 32 (a : Int) ||| BitVec.ofInt 32 (b : Int)).toNat : Int) = _
  rw [e1, e2, e3]
  have e4 : IntKind.u32.signed = false := rfl
  simp only [IntKind.wrap, IntKind.bits, e4]
  simp
  omega
theorem or_add (a m k : Nat) (ha : a < 2 ^ k) : a ||| m * 2 ^ k = m * 2 ^ k + a := by
  have := Nat.shiftLeft_add_eq_or_of_lt ha m
  rw [Nat.shiftLeft_eq] at this
  rw [this, Nat.or_comm]
theorem tri_eq (c0 c1 c2 : UInt8) : tri c0 c1 c2 = ((c2.toNat * 65536 + (c1.toNat * 256 + c0.toNat) : Nat) : Int) := by
  have h0 := c0.toNat_lt; have h1 := c1.toNat_lt; have h2 := c2.toNat_lt
  unfold tri byt
  rw [show (c1.toNat : Int) * 256 = ((c1.toNat * 256 : Nat) : Int) by omega, show (c2.toNat : Int) * 65536 = ((c2.toNat * 65536 : Nat) : Int) by omega, or_nat _ _ (by omega) (by omega)]
  have e1 := or_add c0.toNat c1.toNat 8 (by omega)
  have e2 := or_add (c1.toNat * 256 + c0.toNat) c2.toNat 16 (by omega)
  rw [show (2 : Nat) ^ 8 = 256 from rfl] at e1
  rw [show (2 : Nat) ^ 16 = 65536 from rfl] at e2
  rw [e1, or_nat _ _ (by omega) (by omega), e2]
theorem tri_inj {a b c a' b' c' : UInt8} (h : tri a b c = tri a' b' c') : a = a' ∧ b = b' ∧ c = c' := by
  rw [tri_eq, tri_eq] at h
  have h0 := a.toNat_lt; have h1 := b.toNat_lt; have h2 := c.toNat_lt
  have h3 := a'.toNat_lt; have h4 := b'.toNat_lt; have h5 := c'.toNat_lt
  exact ⟨UInt8.toNat_inj.1 (by omega), UInt8.toNat_inj.1 (by omega), UInt8.toNat_inj.1 (by omega)⟩
/-- The same number at two places: the same three bytes. -/
theorem tri_same {bs : List UInt8} {p q : Nat} (hp : p + 3 ≤ bs.length) (hq : q + 3 ≤ bs.length) (h : triAt bs q = triAt bs p) : ∀ i, i < 3 → bs[q + i]? = bs[p + i]? := by
  obtain ⟨a0, ha0⟩ := at_some (us := bs) (k := p) (by omega)
  obtain ⟨a1, ha1⟩ := at_some (us := bs) (k := p + 1) (by omega)
  obtain ⟨a2, ha2⟩ := at_some (us := bs) (k := p + 2) (by omega)
  obtain ⟨b0, hb0⟩ := at_some (us := bs) (k := q) (by omega)
  obtain ⟨b1, hb1⟩ := at_some (us := bs) (k := q + 1) (by omega)
  obtain ⟨b2, hb2⟩ := at_some (us := bs) (k := q + 2) (by omega)
  unfold triAt at h
  rw [ha0, ha1, ha2, hb0, hb1, hb2] at h
  obtain ⟨rfl, rfl, rfl⟩ := tri_inj h
  intro i hi
  have : i = 0 ∨ i = 1 ∨ i = 2 := by omega
  rcases this with rfl | rfl | rfl
  · rw [Nat.add_zero, Nat.add_zero, ha0, hb0]; rfl
  · rw [ha1, hb1]; rfl
  · rw [ha2, hb2]; rfl
end Go.Proofs.Ytegfacepnklbjaa
