/- The plain mathematics of the sum: the halving step is linear and injective, a table of its eight-fold steps serves byte by byte, sums join, a burst of 32 bits is found. No program in sight. -/
namespace Go.Proofs.Ytmdmjnehhgdjaaa.Math

abbrev B32 := BitVec 32
def poly : B32 := 0xedb88320#32
/-- Halved, and Xored with the polynomial where the lowest bit was 1. -/
def half (x : B32) : B32 := if x.getLsbD 0 then (x >>> 1) ^^^ poly else x >>> 1

def it : Nat → B32 → B32
  | 0, x => x
  | n + 1, x => it n (half x)

theorem it_zero (x : B32) : it 0 x = x := rfl
theorem it_succ (n : Nat) (x : B32) : it (n + 1) x = it n (half x) := rfl

theorem it_add (m n : Nat) (x : B32) : it (m + n) x = it n (it m x) := by
  induction m generalizing x with
  | zero => simp [it]
  | succ m ih => rw [show m + 1 + n = (m + n) + 1 by omega, it_succ, ih, ← it_succ]

theorem it_succ' (n : Nat) (x : B32) : it (n + 1) x = half (it n x) := by
  rw [it_add]; rfl

theorem half_xor (x y : B32) : half (x ^^^ y) = half x ^^^ half y := by
  unfold half
  rw [BitVec.getLsbD_xor, BitVec.ushiftRight_xor_distrib]
  cases x.getLsbD 0 <;> cases y.getLsbD 0
  · rfl
  · exact BitVec.xor_assoc _ _ _
  · show (x >>> 1 ^^^ y >>> 1) ^^^ poly = (x >>> 1 ^^^ poly) ^^^ y >>> 1
    rw [BitVec.xor_assoc, BitVec.xor_comm (y >>> 1) poly, BitVec.xor_assoc]
  · show (x >>> 1 ^^^ y >>> 1) = (x >>> 1 ^^^ poly) ^^^ (y >>> 1 ^^^ poly)
    rw [BitVec.xor_comm (y >>> 1) poly, BitVec.xor_assoc, ← BitVec.xor_assoc poly poly, BitVec.xor_self, BitVec.zero_xor]

theorem half_zero : half 0#32 = 0#32 := by decide

theorem it_xor (n : Nat) (x y : B32) : it n (x ^^^ y) = it n x ^^^ it n y := by
  induction n generalizing x y with
  | zero => rfl
  | succ n ih => rw [it_succ, half_xor, ih]; rfl

theorem it_zero' (n : Nat) : it n 0#32 = 0#32 := by
  induction n with
  | zero => rfl
  | succ n ih => rw [it_succ, half_zero, ih]

theorem half_eq_zero {x : B32} (h : half x = 0#32) : x = 0#32 := by
  unfold half at h
  by_cases hb : x.getLsbD 0 = true
  · rw [if_pos hb] at h
    have h2 : (x >>> 1 ^^^ poly).getLsbD 31 = false := by rw [h]; simp
    rw [BitVec.getLsbD_xor, BitVec.getLsbD_ushiftRight, BitVec.getLsbD_of_ge x (1 + 31) (by omega)] at h2
    exact absurd h2 (by decide)
  · rw [if_neg hb] at h
    apply BitVec.eq_of_getLsbD_eq
    intro i hi
    simp only [BitVec.getLsbD_zero]
    cases i with
    | zero => simpa using hb
    | succ j =>
      have h3 : (x >>> 1).getLsbD j = false := by rw [h]; simp
      rw [BitVec.getLsbD_ushiftRight] at h3
      rw [Nat.add_comm]; exact h3

theorem it_eq_zero {n : Nat} {x : B32} (h : it n x = 0#32) : x = 0#32 := by
  induction n generalizing x with
  | zero => exact h
  | succ n ih => exact half_eq_zero (ih h)

/-- A number whose lowest k bits are noughts is shifted. -/
theorem it_shift (k : Nat) (x : B32) (h : ∀ i, i < k → x.getLsbD i = false) : it k x = x >>> k := by
  induction k generalizing x with
  | zero => simp [it]
  | succ k ih =>
    have h0 : x.getLsbD 0 = false := h 0 (by omega)
    have hh : half x = x >>> 1 := by unfold half; rw [h0]; rfl
    rw [it_succ, hh, ih]
    · rw [← BitVec.shiftRight_add, Nat.add_comm]
    · intro i hi
      rw [BitVec.getLsbD_ushiftRight]
      exact h _ (by omega)

/-- A byte's number: the lowest eight bits. -/
def byte (c : UInt8) : B32 := c.toBitVec.setWidth 32

/-- The inner number with a byte behind. -/
def feed (x : B32) (c : UInt8) : B32 := it 8 (x ^^^ byte c)
def upd (x : B32) (b : List UInt8) : B32 := b.foldl feed x

theorem upd_nil (x : B32) : upd x [] = x := rfl
theorem upd_cons (x : B32) (c : UInt8) (b : List UInt8) : upd x (c :: b) = upd (feed x c) b := rfl
theorem upd_append (x : B32) (a b : List UInt8) : upd x (a ++ b) = upd (upd x a) b := List.foldl_append
theorem upd_snoc (x : B32) (b : List UInt8) (c : UInt8) : upd x (b ++ [c]) = feed (upd x b) c := by rw [upd_append]; rfl

theorem feed_xor (x y : B32) (c d : UInt8) : feed (x ^^^ y) (c ^^^ d) = feed x c ^^^ feed y d := by
  unfold feed
  rw [← it_xor]
  congr 1
  have : byte (c ^^^ d) = byte c ^^^ byte d := by simp [byte]
  rw [this]
  rw [BitVec.xor_assoc, BitVec.xor_assoc]
  congr 1
  rw [← BitVec.xor_assoc, BitVec.xor_comm y, BitVec.xor_assoc]

theorem byte_zero : byte 0 = 0#32 := by decide
theorem feed_zero (x : B32) : feed x 0 = it 8 x := by unfold feed; rw [byte_zero, BitVec.xor_zero]

theorem upd_xor : ∀ (a b : List UInt8) (x y : B32), a.length = b.length → upd (x ^^^ y) (List.zipWith (· ^^^ ·) a b) = upd x a ^^^ upd y b
  | [], [], x, y, _ => rfl
  | c :: a, d :: b, x, y, h => by
    rw [List.zipWith_cons_cons, upd_cons, feed_xor, upd_xor a b _ _ (by simpa using h)]; rfl

theorem upd_replicate (n : Nat) (x : B32) : upd x (List.replicate n 0) = it (8 * n) x := by
  induction n generalizing x with
  | zero => rfl
  | succ n ih => rw [List.replicate_succ, upd_cons, feed_zero, ih, ← it_add]; congr 1; omega

theorem upd_split (b : List UInt8) (x y : B32) : upd (x ^^^ y) b = upd x b ^^^ it (8 * b.length) y := by
  have h := upd_xor b (List.replicate b.length 0) x y (by simp)
  rw [upd_replicate] at h
  rw [← h]
  congr 1
  have : ∀ l : List UInt8, List.zipWith (· ^^^ ·) l (List.replicate l.length 0) = l := by
    intro l
    induction l with
    | nil => rfl
    | cons c l ih => rw [List.length_cons, List.replicate_succ, List.zipWith_cons_cons, ih]; simp
  exact (this b).symm

/-! ### The document's words -/
def update (s : B32) (b : List UInt8) : B32 := ~~~ upd (~~~ s) b
def sum (b : List UInt8) : B32 := update 0#32 b
def zeros (s : B32) (n : Nat) : B32 := ~~~ it (8 * n) (~~~ s)
def join (a b : B32) (n : Nat) : B32 := it (8 * n) a ^^^ b

theorem update_append (s : B32) (a b : List UInt8) : update (update s a) b = update s (a ++ b) := by
  unfold update; rw [BitVec.not_not, upd_append]

theorem not_eq (x : B32) : ~~~ x = x ^^^ (BitVec.allOnes 32) := (BitVec.xor_allOnes (x := x)).symm

theorem join_sum (s : B32) (a b : List UInt8) : join (update s a) (sum b) b.length = update s (a ++ b) := by
  unfold join sum update
  rw [upd_append]
  have h := upd_split b (~~~ 0#32) (upd (~~~ s) a ^^^ ~~~ 0#32)
  have e : (~~~ 0#32 ^^^ (upd (~~~ s) a ^^^ ~~~ 0#32)) = upd (~~~ s) a := by
    rw [BitVec.xor_comm (upd (~~~ s) a), ← BitVec.xor_assoc, BitVec.xor_self, BitVec.zero_xor]
  rw [e] at h
  rw [h]
  have e2 : ~~~ (upd (~~~ s) a) = upd (~~~ s) a ^^^ ~~~ 0#32 := by rw [not_eq]; rfl
  rw [e2]
  rw [not_eq (upd _ b), not_eq (upd (~~~ 0#32) b ^^^ _)]
  ac_rfl

theorem zeros_zeros (s : B32) (n m : Nat) : zeros (zeros s n) m = zeros s (n + m) := by
  unfold zeros; rw [BitVec.not_not, ← it_add]; congr 2; omega

theorem join_zero (s : B32) : join s 0#32 0 = s := by unfold join; rw [BitVec.xor_zero]; rfl

theorem join_zeros (s : B32) (n : Nat) : join s (zeros 0#32 n) n = zeros s n := by
  unfold join zeros
  rw [not_eq s, it_xor]
  have : ~~~ 0#32 = BitVec.allOnes 32 := rfl
  rw [this, not_eq, not_eq, BitVec.xor_assoc]

theorem zeros_update (s : B32) (n : Nat) : zeros s n = update s (List.replicate n 0) := by
  unfold zeros update; rw [upd_replicate]

theorem not_three (p q r : B32) : ~~~ (p ^^^ q ^^^ r) = ~~~ p ^^^ ~~~ q ^^^ ~~~ r := by
  rw [not_eq, not_eq, not_eq, not_eq]
  generalize BitVec.allOnes 32 = o
  have h : (p ^^^ o) ^^^ (q ^^^ o) ^^^ (r ^^^ o) = (p ^^^ q ^^^ r ^^^ o) ^^^ (o ^^^ o) := by ac_rfl
  rw [h, BitVec.xor_self, BitVec.xor_zero]

theorem sum_xor (a b c : List UInt8) (h1 : b.length = a.length) (h2 : c.length = a.length) :
    sum (List.zipWith (· ^^^ ·) (List.zipWith (· ^^^ ·) a b) c) = sum a ^^^ sum b ^^^ sum c := by
  unfold sum update
  have e : (~~~ 0#32 : B32) = (~~~ 0#32 ^^^ ~~~ 0#32) ^^^ ~~~ 0#32 := by rw [BitVec.xor_self, BitVec.zero_xor]
  have h := upd_xor (List.zipWith (· ^^^ ·) a b) c (~~~ 0#32 ^^^ ~~~ 0#32) (~~~ 0#32) (by simp; omega)
  rw [upd_xor a b _ _ h1.symm, ← e] at h
  rw [h]
  generalize upd (~~~ 0#32) a = p
  generalize upd (~~~ 0#32) b = q
  generalize upd (~~~ 0#32) c = r
  exact not_three p q r

/-! ### The table -/
def tab (i : Nat) : B32 := it 8 (BitVec.ofNat 32 i)

theorem tab_step (x : B32) (c : UInt8) : tab ((x.toNat % 256) ^^^ c.toNat) ^^^ (x >>> 8) = feed x c := by
  unfold feed tab
  have hc : c.toNat < 256 := c.toNat_lt
  -- y: what is fed; its lowest eight bits, and the others
  have e : x ^^^ byte c = BitVec.ofNat 32 ((x.toNat % 256) ^^^ c.toNat) ^^^ ((x >>> 8) <<< 8) := by
    apply BitVec.eq_of_getLsbD_eq
    intro i hi
    simp only [BitVec.getLsbD_xor, byte, BitVec.getLsbD_setWidth, BitVec.getLsbD_ofNat, hi, decide_true, Bool.true_and, BitVec.getLsbD_shiftLeft, BitVec.getLsbD_ushiftRight, Nat.testBit_xor]
    have hcb : c.toBitVec.getLsbD i = c.toNat.testBit i := rfl
    rw [hcb, show (256 : Nat) = 2 ^ 8 from rfl, Nat.testBit_mod_two_pow]
    by_cases h8 : i < 8
    · simp [h8]; rfl
    · have hz : c.toNat.testBit i = false := Nat.testBit_lt_two_pow (Nat.lt_of_lt_of_le hc (by
        have : 2 ^ 8 ≤ 2 ^ i := Nat.pow_le_pow_right (by decide) (by omega)
        simpa using this))
      simp [h8, hz]
      congr 1
      omega
  rw [e, it_xor]
  congr 1
  rw [it_shift 8 ((x >>> 8) <<< 8)]
  · apply BitVec.eq_of_getLsbD_eq
    intro i hi
    simp only [BitVec.getLsbD_ushiftRight, BitVec.getLsbD_shiftLeft]
    by_cases h : 8 + i < 32
    · simp [h]
    · simp [h]
      exact (BitVec.getLsbD_of_ge x (8 + i) (by omega))
  · intro i hi
    simp [BitVec.getLsbD_shiftLeft]; omega

/-! ### Linear maps as columns -/
/-- The columns' sum over the bits of v below k. -/
def cols (f : Nat → B32) (v : B32) : Nat → B32
  | 0 => 0#32
  | k + 1 => cols f v k ^^^ (f k &&& -((v >>> k) &&& 1#32))

theorem neg_bit (v : B32) (k : Nat) : -((v >>> k) &&& 1#32) = if v.getLsbD k then BitVec.allOnes 32 else 0#32 := by
  have h : (v >>> k) &&& 1#32 = if v.getLsbD k then 1#32 else 0#32 := by
    apply BitVec.eq_of_getLsbD_eq
    intro i hi
    rw [BitVec.getLsbD_and, BitVec.getLsbD_ushiftRight]
    cases i with
    | zero => cases hk : v.getLsbD k <;> simp_all
    | succ j => cases v.getLsbD k <;> simp [BitVec.getLsbD_one]
  rw [h]
  cases v.getLsbD k <;> decide

theorem cols_it (n : Nat) (f : Nat → B32) (hf : ∀ k, k < 32 → f k = it n (BitVec.ofNat 32 (2 ^ k))) (v : B32) : ∀ k, k ≤ 32 → cols f v k = it n (v &&& BitVec.ofNat 32 (2 ^ k - 1))
  | 0, _ => by simp [cols, it_zero']
  | k + 1, h => by
    rw [cols, cols_it n f hf v k (by omega), neg_bit, hf k (by omega)]
    have e : v &&& BitVec.ofNat 32 (2 ^ (k + 1) - 1) = (v &&& BitVec.ofNat 32 (2 ^ k - 1)) ^^^ (if v.getLsbD k then BitVec.ofNat 32 (2 ^ k) else 0#32) := by
      apply BitVec.eq_of_getLsbD_eq
      intro i hi
      simp only [BitVec.getLsbD_and, BitVec.getLsbD_xor, BitVec.getLsbD_ofNat, hi, decide_true, Bool.true_and, Nat.testBit_two_pow_sub_one]
      by_cases hik : i = k
      · subst hik
        cases hv : v.getLsbD i
        · simp
        · rw [if_pos rfl, BitVec.getLsbD_ofNat, Nat.testBit_two_pow]
          simp [hi]
      · have h2 : (if v.getLsbD k = true then BitVec.ofNat 32 (2 ^ k) else 0#32).getLsbD i = false := by
          cases v.getLsbD k
          · simp
          · simp only [if_true, BitVec.getLsbD_ofNat]
            rw [Nat.testBit_two_pow]
            simp; omega
        rw [h2]
        have : decide (i < k + 1) = decide (i < k) := by
          by_cases h : i < k
          · simp [h]; omega
          · simp [h]; omega
        rw [this]; simp
    rw [e, it_xor]
    congr 1
    cases v.getLsbD k
    · simp [it_zero']
    · rw [if_pos rfl, if_pos rfl, BitVec.and_allOnes]

theorem cols_all (n : Nat) (f : Nat → B32) (hf : ∀ k, k < 32 → f k = it n (BitVec.ofNat 32 (2 ^ k))) (v : B32) : cols f v 32 = it n v := by
  rw [cols_it n f hf v 32 (Nat.le_refl _)]
  congr 1
  have : BitVec.ofNat 32 (2 ^ 32 - 1) = BitVec.allOnes 32 := by decide
  rw [this, BitVec.and_allOnes]

/-! ### A burst -/
def fbit (x : B32) (b : Bool) : B32 := half (x ^^^ (if b then 1#32 else 0#32))
/-- The lowest k bits, the lowest first. -/
def bitsOf : Nat → Nat → List Bool
  | 0, _ => []
  | k + 1, v => v.testBit 0 :: bitsOf k (v / 2)

theorem bitsOf_length : ∀ k v, (bitsOf k v).length = k
  | 0, _ => rfl
  | k + 1, v => by rw [bitsOf, List.length_cons, bitsOf_length k]

theorem bitsOf_get : ∀ k v i, i < k → (bitsOf k v)[i]? = some (v.testBit i)
  | k + 1, v, 0, _ => rfl
  | k + 1, v, i + 1, h => by
    rw [bitsOf, List.getElem?_cons_succ, bitsOf_get k _ i (by omega), Nat.testBit_succ]

theorem ofNat_bit (v : Nat) : BitVec.ofNat 32 v = (if v.testBit 0 then 1#32 else 0#32) ^^^ BitVec.ofNat 32 (2 * (v / 2)) := by
  apply BitVec.eq_of_getLsbD_eq
  intro i hi
  rw [BitVec.getLsbD_xor, BitVec.getLsbD_ofNat, BitVec.getLsbD_ofNat]
  cases i with
  | zero =>
    have h2 : (2 * (v / 2)).testBit 0 = false := by rw [Nat.testBit_zero]; simp
    rw [h2]
    cases v.testBit 0 <;> simp
  | succ j =>
    have h1 : (if v.testBit 0 = true then 1#32 else 0#32).getLsbD (j + 1) = false := by
      cases v.testBit 0 <;> simp [BitVec.getLsbD_one]
    have h2 : (2 * (v / 2)).testBit (j + 1) = v.testBit (j + 1) := by
      rw [Nat.testBit_succ, Nat.testBit_succ]; congr 1; omega
    rw [h1, h2]; simp

theorem half_even (q : Nat) (h : 2 * q < 2 ^ 32) : half (BitVec.ofNat 32 (2 * q)) = BitVec.ofNat 32 q := by
  unfold half
  have h0 : (BitVec.ofNat 32 (2 * q)).getLsbD 0 = false := by rw [BitVec.getLsbD_ofNat, Nat.testBit_zero]; simp
  rw [h0]
  apply BitVec.eq_of_toNat_eq
  simp only [Bool.false_eq_true, if_false, BitVec.toNat_ushiftRight, BitVec.toNat_ofNat, Nat.shiftRight_eq_div_pow]
  rw [Nat.mod_eq_of_lt h, Nat.mod_eq_of_lt (by omega)]
  omega

theorem fold_bits : ∀ (k v : Nat) (x : B32), k ≤ 32 → v < 2 ^ k → (bitsOf k v).foldl fbit x = it k (x ^^^ BitVec.ofNat 32 v)
  | 0, v, x, _, h => by
    have : v = 0 := by simpa using h
    subst this; simp [bitsOf, it]
  | k + 1, v, x, hk, h => by
    have hv : v < 2 ^ 32 := Nat.lt_of_lt_of_le h (Nat.pow_le_pow_right (by decide) hk)
    rw [bitsOf, List.foldl_cons, fold_bits k (v / 2) _ (by omega) (by rw [Nat.pow_succ] at h; omega), it_succ]
    congr 1
    unfold fbit
    rw [ofNat_bit v, ← BitVec.xor_assoc, half_xor (x ^^^ _), half_even _ (by omega)]
theorem fold_zeros (n : Nat) (x : B32) : (List.replicate n false).foldl fbit x = it n x := by
  induction n generalizing x with
  | zero => rfl
  | succ n ih => rw [List.replicate_succ, List.foldl_cons, ih, it_succ]; simp [fbit]

def bytesBits (d : List UInt8) : List Bool := d.flatMap fun c => bitsOf 8 c.toNat

theorem feed_bits (x : B32) (c : UInt8) : feed x c = (bitsOf 8 c.toNat).foldl fbit x := by
  rw [fold_bits 8 c.toNat x (by omega) c.toNat_lt]
  unfold feed
  congr 2
  apply BitVec.eq_of_toNat_eq
  simp [byte]

theorem upd_bits (x : B32) (d : List UInt8) : upd x d = (bytesBits d).foldl fbit x := by
  induction d generalizing x with
  | nil => rfl
  | cons c d ih => rw [upd_cons, ih, feed_bits]; simp [bytesBits, List.foldl_append]

theorem bytesBits_length (d : List UInt8) : (bytesBits d).length = 8 * d.length := by
  induction d with
  | nil => rfl
  | cons c d ih =>
    have : bytesBits (c :: d) = bitsOf 8 c.toNat ++ bytesBits d := rfl
    rw [this, List.length_append, ih, bitsOf_length, List.length_cons]; omega

theorem bytesBits_get (d : List UInt8) (j t : Nat) (hj : j < d.length) (ht : t < 8) : (bytesBits d)[8 * j + t]? = some (d[j].toNat.testBit t) := by
  induction d generalizing j with
  | nil => simp at hj
  | cons c d ih =>
    have e : bytesBits (c :: d) = bitsOf 8 c.toNat ++ bytesBits d := rfl
    rw [e]
    cases j with
    | zero =>
      rw [List.getElem?_append_left (by rw [bitsOf_length]; omega), Nat.mul_zero, Nat.zero_add, bitsOf_get 8 _ t ht]; rfl
    | succ j =>
      rw [List.getElem?_append_right (by rw [bitsOf_length]; omega), bitsOf_length, show 8 * (j + 1) + t - 8 = 8 * j + t by omega, ih j (by simpa using hj)]; rfl

/-- The first k bits of a burst, from bit 'at' on, turned in bytes. -/
def flips (b : List UInt8) (st burst : Nat) : Nat → List UInt8
  | 0 => b
  | k + 1 => if burst.testBit k then (flips b st burst k).modify ((st + k) / 8) (· ^^^ ((1 : UInt8) <<< UInt8.ofNat ((st + k) % 8))) else flips b st burst k

theorem flips_length (b : List UInt8) (s v : Nat) : ∀ k, (flips b s v k).length = b.length
  | 0 => rfl
  | k + 1 => by rw [flips]; split <;> simp [flips_length b s v k]

theorem one_shl (t : Nat) (ht : t < 8) (u : Nat) : ((1 : UInt8) <<< UInt8.ofNat t).toNat.testBit u = decide (u = t) := by
  have : t = 0 ∨ t = 1 ∨ t = 2 ∨ t = 3 ∨ t = 4 ∨ t = 5 ∨ t = 6 ∨ t = 7 := by omega
  have hp : ((1 : UInt8) <<< UInt8.ofNat t).toNat = 2 ^ t := by
    rcases this with h | h | h | h | h | h | h | h <;> subst h <;> rfl
  rw [hp, Nat.testBit_two_pow]
  simp [eq_comm]

theorem flips_bit (b : List UInt8) (s v j t : Nat) (hj : j < b.length) (ht : t < 8) : ∀ k,
    (((flips b s v k)[j]?.getD 0).toNat.testBit t) = (b[j].toNat.testBit t ^^ (decide (s ≤ 8 * j + t) && decide (8 * j + t < s + k) && v.testBit (8 * j + t - s)))
  | 0 => by
    have : (decide (s ≤ 8 * j + t) && decide (8 * j + t < s + 0)) = false := by
      by_cases h : s ≤ 8 * j + t <;> simp [h]
    rw [this, flips]; simp [hj]
  | k + 1 => by
    have ih := flips_bit b s v j t hj ht k
    rw [flips]
    by_cases hv : v.testBit k = true
    · rw [if_pos hv, List.getElem?_modify]
      have hl : j < (flips b s v k).length := by rw [flips_length]; exact hj
      by_cases he : (s + k) / 8 = j
      · by_cases het : (s + k) % 8 = t
        · have h8 : 8 * j + t = s + k := by omega
          rw [List.getElem?_eq_getElem hl] at ih ⊢
          simp only [Option.getD_some, if_pos he, Option.map_eq_map, Option.map_some] at ih ⊢
          rw [UInt8.toNat_xor, Nat.testBit_xor, ih, one_shl _ (by omega), h8]
          simp [het, hv]
        · have h8 : 8 * j + t ≠ s + k := by omega
          rw [List.getElem?_eq_getElem hl] at ih ⊢
          simp only [Option.getD_some, if_pos he, Option.map_eq_map, Option.map_some] at ih ⊢
          rw [UInt8.toNat_xor, Nat.testBit_xor, ih, one_shl _ (by omega)]
          have h9 : decide (8 * j + t < s + (k + 1)) = decide (8 * j + t < s + k) := by
            by_cases h : 8 * j + t < s + k
            · simp [h]; omega
            · simp [h]; omega
          have h10 : decide (t = (s + k) % 8) = false := by
            rw [decide_eq_false_iff_not]
            intro e
            exact het e.symm
          rw [h9, h10, Bool.xor_false]
      · have h8 : 8 * j + t ≠ s + k := by omega
        have h9 : decide (8 * j + t < s + (k + 1)) = decide (8 * j + t < s + k) := by
          by_cases h : 8 * j + t < s + k
          · simp [h]; omega
          · simp [h]; omega
        rw [h9, ← ih, List.getElem?_eq_getElem hl]
        simp [he]
    · rw [if_neg hv, ih]
      have hv' : v.testBit k = false := by simpa using hv
      by_cases h8 : 8 * j + t = s + k
      · rw [h8]; simp [hv']
      · have h9 : decide (8 * j + t < s + (k + 1)) = decide (8 * j + t < s + k) := by
          by_cases h : 8 * j + t < s + k
          · simp [h]; omega
          · simp [h]; omega
        rw [h9]

theorem flips_sum (b : List UInt8) (s v : Nat) (hs : s + 32 ≤ 8 * b.length) (hv : v ≠ 0) (hv2 : v < 2 ^ 32) : sum (flips b s v 32) ≠ sum b := by
  intro h
  unfold sum update at h
  have h1 : upd (~~~ 0#32) (flips b s v 32) = upd (~~~ 0#32) b := by
    have := congrArg (~~~ ·) h
    simpa using this
  have h2 := upd_xor (flips b s v 32) b (~~~ 0#32) (~~~ 0#32) (flips_length b s v 32)
  rw [h1, BitVec.xor_self, BitVec.xor_self, upd_bits] at h2
  have e : bytesBits (List.zipWith (· ^^^ ·) (flips b s v 32) b) = List.replicate s false ++ (bitsOf 32 v ++ List.replicate (8 * b.length - s - 32) false) := by
    apply List.ext_getElem?
    intro n
    have hzl : (List.zipWith (fun x1 x2 => x1 ^^^ x2) (flips b s v 32) b).length = b.length := by simp [flips_length]
    by_cases hn : n < 8 * b.length
    · have hn2 : n = 8 * (n / 8) + n % 8 := by omega
      have hj : n / 8 < b.length := by omega
      rw [hn2, bytesBits_get _ _ _ (by rw [hzl]; exact hj) (by omega), ← hn2]
      have hl : n / 8 < (flips b s v 32).length := by rw [flips_length]; exact hj
      have hb := flips_bit b s v (n / 8) (n % 8) hj (by omega) 32
      rw [List.getElem?_eq_getElem hl, Option.getD_some, ← hn2] at hb
      rw [List.getElem_zipWith, UInt8.toNat_xor, Nat.testBit_xor, hb]
      by_cases hs1 : n < s
      · rw [List.getElem?_append_left (by simpa using hs1), List.getElem?_replicate, if_pos hs1]
        have : decide (s ≤ n) = false := by simp; omega
        simp [this]
      · rw [List.getElem?_append_right (by simp; omega), List.length_replicate]
        have h3 : decide (s ≤ n) = true := by simp; omega
        by_cases hs2 : n < s + 32
        · rw [List.getElem?_append_left (by rw [bitsOf_length]; omega), bitsOf_get _ _ _ (by omega)]
          rw [h3, decide_eq_true hs2]
          generalize b[n / 8].toNat.testBit (n % 8) = p
          generalize v.testBit (n - s) = q
          cases p <;> cases q <;> rfl
        · rw [List.getElem?_append_right (by rw [bitsOf_length]; omega), List.getElem?_replicate, bitsOf_length, if_pos (by omega)]
          simp [h3, hs2]
    · rw [List.getElem?_eq_none (by rw [bytesBits_length, hzl]; omega), List.getElem?_eq_none (by simp [bitsOf_length]; omega)]
  rw [e, List.foldl_append, List.foldl_append, fold_zeros s, it_zero', fold_bits 32 v _ (by omega) hv2, BitVec.zero_xor, fold_zeros] at h2
  have h3 := it_eq_zero (it_eq_zero h2)
  have h4 := congrArg BitVec.toNat h3
  rw [BitVec.toNat_ofNat, Nat.mod_eq_of_lt hv2] at h4
  exact hv h4

#print axioms flips_sum
#print axioms join_sum
#print axioms sum_xor
#print axioms tab_step
#print axioms cols_all
end Go.Proofs.Ytmdmjnehhgdjaaa.Math
