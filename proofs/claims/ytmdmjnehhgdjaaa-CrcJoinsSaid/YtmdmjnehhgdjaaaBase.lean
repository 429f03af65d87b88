/- Words for the walks: a number of 32 bits as the model's slot holds it, and what the operations on it come to. -/
import Derived.Test.YtmdmjnehhgdjaaaMath
import Derived.Laws.BitsAllLaws
import Derived.Laws.ShiftsVarLaws
import Derived.Laws.Shifts
namespace Go.Proofs.Ytmdmjnehhgdjaaa
open Math

/-- A number of 32 bits as an integer; closed to the walk's simp. -/
def num (x : B32) : Int := x.toNat
def X (a b : B32) : B32 := a ^^^ b
def A (a b : B32) : B32 := a &&& b
def R (a : B32) (k : Nat) : B32 := a >>> k
def Ng (a : B32) : B32 := -a
def Nt (a : B32) : B32 := ~~~ a

theorem num_nonneg (x : B32) : 0 ≤ num x := by unfold num; omega
theorem num_lt (x : B32) : num x < 4294967296 := by unfold num; have := x.isLt; omega
theorem num_inj {x y : B32} (h : num x = num y) : x = y := BitVec.eq_of_toNat_eq (by unfold num at h; omega)
theorem num_of (n : Int) (h0 : 0 ≤ n) (h1 : n < 4294967296) : num (BitVec.ofNat 32 n.toNat) = n := by
  unfold num; rw [BitVec.toNat_ofNat, Nat.mod_eq_of_lt (by omega)]; omega
theorem bits_xor (x y : B32) : bits .xor .u32 (num x) (num y) = num (X x y) := by
  unfold num X
  rw [u32_xor_nat _ _ x.isLt y.isLt, BitVec.toNat_xor]
theorem bits_and (x y : B32) : bits .and .u32 (num x) (num y) = num (A x y) := by
  unfold num A
  rw [u32_and_nat _ _ x.isLt y.isLt, BitVec.toNat_and]
theorem bits_and_one (x : B32) : bits .and .u32 (num x) 1 = num (A x 1#32) := bits_and x 1#32
theorem bits_and_poly (y : B32) : bits .and .u32 3988292384 (num y) = num (A poly y) := bits_and poly y
theorem bits_xor_poly (x : B32) : bits .xor .u32 (num x) 3988292384 = num (X x poly) := bits_xor x poly
theorem bits_not (x : B32) : bits .xor .u32 4294967295 (num x) = num (Nt x) := by
  have h := bits_xor (BitVec.allOnes 32) x
  have e : num (BitVec.allOnes 32) = 4294967295 := by decide
  rw [e] at h; rw [h]; unfold X Nt; rw [BitVec.xor_comm, BitVec.xor_allOnes]
theorem signed_u32 : IntKind.u32.signed = false := rfl
theorem bits_not' (x : B32) : bits .xor .u32 IntKind.u32.max (num x) = num (Nt x) := bits_not x
theorem num_shr (x : B32) (k : Nat) : num x / 2 ^ k = num (R x k) := by
  unfold num R
  rw [BitVec.toNat_ushiftRight, Nat.shiftRight_eq_div_pow]
  simp
theorem num_half (x : B32) : num x / 2 = num (R x 1) := by have := num_shr x 1; simpa using this
theorem num_div256 (x : B32) : num x / 256 = num (R x 8) := by have := num_shr x 8; simpa using this
theorem num_neg (x : B32) : IntKind.u32.wrap (-num x) = num (Ng x) := by
  rw [IntKind.wrap_u32']
  unfold num Ng
  rw [BitVec.toNat_neg]
  have := x.isLt
  omega
theorem num_zero : num 0#32 = 0 := rfl

/-- A byte as an integer; closed to the walk's simp. -/
def byt (c : UInt8) : Int := c.toNat
theorem byt_nonneg (c : UInt8) : 0 ≤ byt c := by unfold byt; omega
theorem byt_lt (c : UInt8) : byt c < 256 := by unfold byt; have := c.toNat_lt; omega
theorem byt_inj {a b : UInt8} (h : byt a = byt b) : a = b := by unfold byt at h; exact UInt8.toNat_inj.1 (by omega)
theorem byt_of (n : Int) (h0 : 0 ≤ n) (h1 : n < 256) : byt (UInt8.ofNat n.toNat) = n := by
  unfold byt; rw [UInt8.toNat_ofNat_of_lt' (by show n.toNat < 256; omega)]; omega
/-- The table's place: the number's lowest eight bits, Xored with a byte. -/
def idx (x : B32) (c : UInt8) : Nat := (x.toNat % 256) ^^^ c.toNat
theorem idx_lt (x : B32) (c : UInt8) : idx x c < 256 := Nat.xor_lt_two_pow (n := 8) (Nat.mod_lt _ (by decide)) c.toNat_lt
theorem bits_idx (x : B32) (c : UInt8) : bits .xor .u8 (num x % 256) (byt c) = (idx x c : Int) := by
  have h : num x % 256 = ((x.toNat % 256 : Nat) : Int) := by unfold num; omega
  rw [h]
  exact u8_xor_nat _ _ (Nat.mod_lt _ (by decide)) c.toNat_lt
theorem bits_idx' (x : B32) (c : UInt8) : bits .xor .u8 (IntKind.u8.wrap (num x)) (byt c) = (idx x c : Int) := by rw [IntKind.wrap_u8']; exact bits_idx x c
theorem conv_byt (c : UInt8) : IntKind.u32.wrap (byt c) = num (byte c) := by
  rw [IntKind.wrap_u32']
  have h := byt_lt c; have h0 := byt_nonneg c
  have e : num (byte c) = byt c := by unfold num byte byt; simp
  rw [e]; omega
theorem feed_idx (x : B32) (c : UInt8) : X (tab (idx x c)) (R x 8) = feed x c := tab_step x c

theorem half_eq (x : B32) : X (R x 1) (A poly (Ng (A x 1#32))) = half x := by
  unfold X R A Ng half
  have h := neg_bit x 0
  simp only [BitVec.ushiftRight_zero] at h
  rw [h]
  cases x.getLsbD 0
  · simp
  · rw [if_pos rfl, if_pos rfl, BitVec.and_allOnes]
end Go.Proofs.Ytmdmjnehhgdjaaa
