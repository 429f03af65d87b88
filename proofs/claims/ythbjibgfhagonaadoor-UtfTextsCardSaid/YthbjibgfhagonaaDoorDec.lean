/- A sign told from bytes, the library's way: what the calls compute, for all bytes. -/
import Derived.Test.YthbjibgfhagonaaDoorBytes
import Derived.Test.YthbjibgfhagonaaDoorProg
import Derived.WalkLawsBesides
import Derived.Deep.QuietTactic
import Derived.BigQuiet
namespace Go.Proofs.YthbjibgfhagonaaDoor
open Go.RowKit
set_option linter.unusedVariables false

/-- What the library's first table says of a byte. -/
def firstT (b : Int) : Int :=
  if b < 128 then 240 else if b < 194 then 241 else if b < 224 then 2 else if b = 224 then 19 else if b < 237 then 3 else if b = 237 then 35 else if b < 240 then 3 else if b = 240 then 52 else if b < 244 then 4 else if b = 244 then 68 else 241
def accLo : Nat → Int
  | 1 => 160
  | 3 => 144
  | _ => 128
def accHi : Nat → Int
  | 2 => 159
  | 4 => 143
  | _ => 191
/-- The library's two tables lie where the program's variables do. -/
def Tabs (w : World) : Prop :=
  (∀ i : Nat, i < 256 → w.cell? ⟨0, i, none⟩ = some (.int .u8 (firstT i))) ∧ ∀ i : Nat, i < 5 → w.cell? ⟨1, i * 2, none⟩ = some (.int .u8 (accLo i)) ∧ w.cell? ⟨1, i * 2 + 1, none⟩ = some (.int .u8 (accHi i))

def lo3 (z : Int) : Int := if z = 224 then 160 else 128
def hi3 (z : Int) : Int := if z = 237 then 159 else 191
def lo4 (z : Int) : Int := if z = 240 then 144 else 128
def hi4 (z : Int) : Int := if z = 244 then 143 else 191

def dec (n z0 z1 z2 z3 : Int) : Int × Int :=
  if n < 1 then (65533, 0) else if z0 < 128 then (z0, 1) else if z0 < 194 then (65533, 1) else
  if z0 < 224 then (if n < 2 ∨ z1 < 128 ∨ 191 < z1 then (65533, 1) else (z0 % 32 * 64 + z1 % 64, 2)) else
  if z0 < 240 then (if n < 3 ∨ z1 < lo3 z0 ∨ hi3 z0 < z1 ∨ z2 < 128 ∨ 191 < z2 then (65533, 1) else (z0 % 16 * 4096 + z1 % 64 * 64 + z2 % 64, 3)) else
  if 244 < z0 then (65533, 1) else
  (if n < 4 ∨ z1 < lo4 z0 ∨ hi4 z0 < z1 ∨ z2 < 128 ∨ 191 < z2 ∨ z3 < 128 ∨ 191 < z3 then (65533, 1) else (z0 % 8 * 262144 + z1 % 64 * 4096 + z2 % 64 * 64 + z3 % 64, 4))

set_option maxHeartbeats 1000000 in
set_option maxRecDepth 100000 in
theorem slow2 (b o n cap : Nat) (z0 z1 z2 z3 : Int) (w : World) (hn : n ≤ 9223372036854775807) (h0 : 194 ≤ z0) (h1 : z0 < 224) (h2 : 0 ≤ z1) (h3 : z1 < 256) (hn1 : 1 ≤ n)
    (c0 : w.cell? ⟨b, o, none⟩ = some (.int .u8 z0)) (c1 : 2 ≤ n → w.cell? ⟨b, o + 1, none⟩ = some (.int .u8 z1))
    (f0 : w.cell? ⟨0, z0.toNat, none⟩ = some (.int .u8 2)) (a0 : w.cell? ⟨1, 0, none⟩ = some (.int .u8 128)) (a1 : w.cell? ⟨1, 1, none⟩ = some (.int .u8 191)) :
    Calls Tryd.prog 45 #[.slice (some ⟨b, o, none⟩) n cap] w fun e w' => (e = .returned (.tuple #[.int .i32 (dec n z0 z1 z2 z3).1, .int .i64 (dec n z0 z1 z2 z3).2])) ∧ Below w.heap.size w w' := by
  have hbw : b < w.heap.size := block_lt_of_cell c0
  have e1 : dec n z0 z1 z2 z3 = (if (n : Int) < 2 ∨ z1 < 128 ∨ 191 < z1 then (65533, 1) else (z0 % 32 * 64 + z1 % 64, 2)) := by
    unfold dec
    rw [if_neg (by omega), if_neg (by omega), if_neg (by omega), if_pos (by omega)]
  rw [e1]
  clear e1
  by_cases g1 : n < 2
  · rw [if_pos (by omega)]
    clear c1
    go_enter Tryd.func45, Tryd.ntmps45
    go_wp2
    go_ret2
    exact ⟨rfl, (Below.refl _ _).alloc (Nat.le_refl _) _⟩
  · have c1 := c1 (by omega)
    by_cases g2 : z1 < 128
    · rw [if_pos (by omega)]
      go_enter Tryd.func45, Tryd.ntmps45
      go_wp2
      go_ret2
      exact ⟨rfl, (Below.refl _ _).alloc (Nat.le_refl _) _⟩
    by_cases g3 : 191 < z1
    · rw [if_pos (by omega)]
      go_enter Tryd.func45, Tryd.ntmps45
      go_wp2
      go_ret2
      exact ⟨rfl, (Below.refl _ _).alloc (Nat.le_refl _) _⟩
    rw [if_neg (by omega)]
    go_enter Tryd.func45, Tryd.ntmps45
    go_wp2
    go_ret2
    exact ⟨rfl, (Below.refl _ _).alloc (Nat.le_refl _) _⟩

set_option maxHeartbeats 2000000 in
set_option maxRecDepth 100000 in
theorem slow3_0 (b o n cap : Nat) (z0 z1 z2 z3 : Int) (w : World) (hn : n ≤ 9223372036854775807) (h0 : z0 = 224) (h2 : 0 ≤ z1) (h3 : z1 < 256) (h4 : 0 ≤ z2) (h5 : z2 < 256) (h6 : 0 ≤ z3) (h7 : z3 < 256) (hn1 : 1 ≤ n)
    (c0 : w.cell? ⟨b, o, none⟩ = some (.int .u8 z0)) (c1 : 2 ≤ n → w.cell? ⟨b, o + 1, none⟩ = some (.int .u8 z1)) (c2 : 3 ≤ n → w.cell? ⟨b, o + 2, none⟩ = some (.int .u8 z2)) (c3 : 4 ≤ n → w.cell? ⟨b, o + 3, none⟩ = some (.int .u8 z3))
    (f0 : w.cell? ⟨0, z0.toNat, none⟩ = some (.int .u8 19)) (a0 : w.cell? ⟨1, 2, none⟩ = some (.int .u8 160)) (a1 : w.cell? ⟨1, 3, none⟩ = some (.int .u8 191)) :
    Calls Tryd.prog 45 #[.slice (some ⟨b, o, none⟩) n cap] w fun e w' => (e = .returned (.tuple #[.int .i32 (dec n z0 z1 z2 z3).1, .int .i64 (dec n z0 z1 z2 z3).2])) ∧ Below w.heap.size w w' := by
  have hbw : b < w.heap.size := block_lt_of_cell c0
  have e1 : dec n z0 z1 z2 z3 = (if (n : Int) < 3 ∨ z1 < 160 ∨ 191 < z1 ∨ z2 < 128 ∨ 191 < z2 then (65533, 1) else (z0 % 16 * 4096 + z1 % 64 * 64 + z2 % 64, 3)) := by
    unfold dec
    rw [if_neg (by omega), if_neg (by omega), if_neg (by omega), if_neg (by omega), if_pos (by omega)]
    rw [show lo3 z0 = 160 from if_pos (by omega), show hi3 z0 = 191 from if_neg (by omega)]
  rw [e1]
  clear e1
  subst h0
  simp only [Int.reduceToNat] at f0
  by_cases g1 : n < 3
  · rw [if_pos (by omega)]
    clear c1 c2 c3
    go_enter Tryd.func45, Tryd.ntmps45
    go_wp2
    go_ret2
    exact ⟨rfl, (Below.refl _ _).alloc (Nat.le_refl _) _⟩
  have c1 := c1 (by omega)
  have c2 := c2 (by omega)
  clear c3
  by_cases g2 : z1 < 160
  · rw [if_pos (by omega)]
    go_enter Tryd.func45, Tryd.ntmps45
    go_wp2
    go_ret2
    exact ⟨rfl, (Below.refl _ _).alloc (Nat.le_refl _) _⟩
  by_cases g3 : 191 < z1
  · rw [if_pos (by omega)]
    go_enter Tryd.func45, Tryd.ntmps45
    go_wp2
    go_ret2
    exact ⟨rfl, (Below.refl _ _).alloc (Nat.le_refl _) _⟩
  by_cases g4 : z2 < 128
  · rw [if_pos (by omega)]
    go_enter Tryd.func45, Tryd.ntmps45
    go_wp2
    go_ret2
    exact ⟨rfl, (Below.refl _ _).alloc (Nat.le_refl _) _⟩
  by_cases g5 : 191 < z2
  · rw [if_pos (by omega)]
    go_enter Tryd.func45, Tryd.ntmps45
    go_wp2
    go_ret2
    exact ⟨rfl, (Below.refl _ _).alloc (Nat.le_refl _) _⟩
  rw [if_neg (by omega)]
  go_enter Tryd.func45, Tryd.ntmps45
  go_wp2
  go_ret2
  exact ⟨rfl, (Below.refl _ _).alloc (Nat.le_refl _) _⟩

set_option maxHeartbeats 2000000 in
set_option maxRecDepth 100000 in
theorem slow3_1 (b o n cap : Nat) (z0 z1 z2 z3 : Int) (w : World) (hn : n ≤ 9223372036854775807) (h0 : 225 ≤ z0 ∧ z0 < 237 ∨ 238 ≤ z0 ∧ z0 < 240) (h2 : 0 ≤ z1) (h3 : z1 < 256) (h4 : 0 ≤ z2) (h5 : z2 < 256) (h6 : 0 ≤ z3) (h7 : z3 < 256) (hn1 : 1 ≤ n)
    (c0 : w.cell? ⟨b, o, none⟩ = some (.int .u8 z0)) (c1 : 2 ≤ n → w.cell? ⟨b, o + 1, none⟩ = some (.int .u8 z1)) (c2 : 3 ≤ n → w.cell? ⟨b, o + 2, none⟩ = some (.int .u8 z2)) (c3 : 4 ≤ n → w.cell? ⟨b, o + 3, none⟩ = some (.int .u8 z3))
    (f0 : w.cell? ⟨0, z0.toNat, none⟩ = some (.int .u8 3)) (a0 : w.cell? ⟨1, 0, none⟩ = some (.int .u8 128)) (a1 : w.cell? ⟨1, 1, none⟩ = some (.int .u8 191)) :
    Calls Tryd.prog 45 #[.slice (some ⟨b, o, none⟩) n cap] w fun e w' => (e = .returned (.tuple #[.int .i32 (dec n z0 z1 z2 z3).1, .int .i64 (dec n z0 z1 z2 z3).2])) ∧ Below w.heap.size w w' := by
  have hbw : b < w.heap.size := block_lt_of_cell c0
  have e1 : dec n z0 z1 z2 z3 = (if (n : Int) < 3 ∨ z1 < 128 ∨ 191 < z1 ∨ z2 < 128 ∨ 191 < z2 then (65533, 1) else (z0 % 16 * 4096 + z1 % 64 * 64 + z2 % 64, 3)) := by
    unfold dec
    rw [if_neg (by omega), if_neg (by omega), if_neg (by omega), if_neg (by omega), if_pos (by omega)]
    rw [show lo3 z0 = 128 from if_neg (by omega), show hi3 z0 = 191 from if_neg (by omega)]
  rw [e1]
  clear e1
  rcases h0 with ⟨h0, h0'⟩ | ⟨h0, h0'⟩
  all_goals
    by_cases g1 : n < 3
    · rw [if_pos (by omega)]
      clear c1 c2 c3
      go_enter Tryd.func45, Tryd.ntmps45
      go_wp2
      go_ret2
      exact ⟨rfl, (Below.refl _ _).alloc (Nat.le_refl _) _⟩
    have c1 := c1 (by omega)
    have c2 := c2 (by omega)
    clear c3
    by_cases g2 : z1 < 128
    · rw [if_pos (by omega)]
      go_enter Tryd.func45, Tryd.ntmps45
      go_wp2
      go_ret2
      exact ⟨rfl, (Below.refl _ _).alloc (Nat.le_refl _) _⟩
    by_cases g3 : 191 < z1
    · rw [if_pos (by omega)]
      go_enter Tryd.func45, Tryd.ntmps45
      go_wp2
      go_ret2
      exact ⟨rfl, (Below.refl _ _).alloc (Nat.le_refl _) _⟩
    by_cases g4 : z2 < 128
    · rw [if_pos (by omega)]
      go_enter Tryd.func45, Tryd.ntmps45
      go_wp2
      go_ret2
      exact ⟨rfl, (Below.refl _ _).alloc (Nat.le_refl _) _⟩
    by_cases g5 : 191 < z2
    · rw [if_pos (by omega)]
      go_enter Tryd.func45, Tryd.ntmps45
      go_wp2
      go_ret2
      exact ⟨rfl, (Below.refl _ _).alloc (Nat.le_refl _) _⟩
    rw [if_neg (by omega)]
    go_enter Tryd.func45, Tryd.ntmps45
    go_wp2
    go_ret2
    exact ⟨rfl, (Below.refl _ _).alloc (Nat.le_refl _) _⟩

set_option maxHeartbeats 2000000 in
set_option maxRecDepth 100000 in
theorem slow3_2 (b o n cap : Nat) (z0 z1 z2 z3 : Int) (w : World) (hn : n ≤ 9223372036854775807) (h0 : z0 = 237) (h2 : 0 ≤ z1) (h3 : z1 < 256) (h4 : 0 ≤ z2) (h5 : z2 < 256) (h6 : 0 ≤ z3) (h7 : z3 < 256) (hn1 : 1 ≤ n)
    (c0 : w.cell? ⟨b, o, none⟩ = some (.int .u8 z0)) (c1 : 2 ≤ n → w.cell? ⟨b, o + 1, none⟩ = some (.int .u8 z1)) (c2 : 3 ≤ n → w.cell? ⟨b, o + 2, none⟩ = some (.int .u8 z2)) (c3 : 4 ≤ n → w.cell? ⟨b, o + 3, none⟩ = some (.int .u8 z3))
    (f0 : w.cell? ⟨0, z0.toNat, none⟩ = some (.int .u8 35)) (a0 : w.cell? ⟨1, 4, none⟩ = some (.int .u8 128)) (a1 : w.cell? ⟨1, 5, none⟩ = some (.int .u8 159)) :
    Calls Tryd.prog 45 #[.slice (some ⟨b, o, none⟩) n cap] w fun e w' => (e = .returned (.tuple #[.int .i32 (dec n z0 z1 z2 z3).1, .int .i64 (dec n z0 z1 z2 z3).2])) ∧ Below w.heap.size w w' := by
  have hbw : b < w.heap.size := block_lt_of_cell c0
  have e1 : dec n z0 z1 z2 z3 = (if (n : Int) < 3 ∨ z1 < 128 ∨ 159 < z1 ∨ z2 < 128 ∨ 191 < z2 then (65533, 1) else (z0 % 16 * 4096 + z1 % 64 * 64 + z2 % 64, 3)) := by
    unfold dec
    rw [if_neg (by omega), if_neg (by omega), if_neg (by omega), if_neg (by omega), if_pos (by omega)]
    rw [show lo3 z0 = 128 from if_neg (by omega), show hi3 z0 = 159 from if_pos (by omega)]
  rw [e1]
  clear e1
  subst h0
  simp only [Int.reduceToNat] at f0
  by_cases g1 : n < 3
  · rw [if_pos (by omega)]
    clear c1 c2 c3
    go_enter Tryd.func45, Tryd.ntmps45
    go_wp2
    go_ret2
    exact ⟨rfl, (Below.refl _ _).alloc (Nat.le_refl _) _⟩
  have c1 := c1 (by omega)
  have c2 := c2 (by omega)
  clear c3
  by_cases g2 : z1 < 128
  · rw [if_pos (by omega)]
    go_enter Tryd.func45, Tryd.ntmps45
    go_wp2
    go_ret2
    exact ⟨rfl, (Below.refl _ _).alloc (Nat.le_refl _) _⟩
  by_cases g3 : 159 < z1
  · rw [if_pos (by omega)]
    go_enter Tryd.func45, Tryd.ntmps45
    go_wp2
    go_ret2
    exact ⟨rfl, (Below.refl _ _).alloc (Nat.le_refl _) _⟩
  by_cases g4 : z2 < 128
  · rw [if_pos (by omega)]
    go_enter Tryd.func45, Tryd.ntmps45
    go_wp2
    go_ret2
    exact ⟨rfl, (Below.refl _ _).alloc (Nat.le_refl _) _⟩
  by_cases g5 : 191 < z2
  · rw [if_pos (by omega)]
    go_enter Tryd.func45, Tryd.ntmps45
    go_wp2
    go_ret2
    exact ⟨rfl, (Below.refl _ _).alloc (Nat.le_refl _) _⟩
  rw [if_neg (by omega)]
  go_enter Tryd.func45, Tryd.ntmps45
  go_wp2
  go_ret2
  exact ⟨rfl, (Below.refl _ _).alloc (Nat.le_refl _) _⟩

set_option maxHeartbeats 2000000 in
set_option maxRecDepth 100000 in
theorem slow4_0 (b o n cap : Nat) (z0 z1 z2 z3 : Int) (w : World) (hn : n ≤ 9223372036854775807) (h0 : z0 = 240) (h2 : 0 ≤ z1) (h3 : z1 < 256) (h4 : 0 ≤ z2) (h5 : z2 < 256) (h6 : 0 ≤ z3) (h7 : z3 < 256) (hn1 : 1 ≤ n)
    (c0 : w.cell? ⟨b, o, none⟩ = some (.int .u8 z0)) (c1 : 2 ≤ n → w.cell? ⟨b, o + 1, none⟩ = some (.int .u8 z1)) (c2 : 3 ≤ n → w.cell? ⟨b, o + 2, none⟩ = some (.int .u8 z2)) (c3 : 4 ≤ n → w.cell? ⟨b, o + 3, none⟩ = some (.int .u8 z3))
    (f0 : w.cell? ⟨0, z0.toNat, none⟩ = some (.int .u8 52)) (a0 : w.cell? ⟨1, 6, none⟩ = some (.int .u8 144)) (a1 : w.cell? ⟨1, 7, none⟩ = some (.int .u8 191)) :
    Calls Tryd.prog 45 #[.slice (some ⟨b, o, none⟩) n cap] w fun e w' => (e = .returned (.tuple #[.int .i32 (dec n z0 z1 z2 z3).1, .int .i64 (dec n z0 z1 z2 z3).2])) ∧ Below w.heap.size w w' := by
  have hbw : b < w.heap.size := block_lt_of_cell c0
  have e1 : dec n z0 z1 z2 z3 = (if (n : Int) < 4 ∨ z1 < 144 ∨ 191 < z1 ∨ z2 < 128 ∨ 191 < z2 ∨ z3 < 128 ∨ 191 < z3 then (65533, 1) else (z0 % 8 * 262144 + z1 % 64 * 4096 + z2 % 64 * 64 + z3 % 64, 4)) := by
    unfold dec
    rw [if_neg (by omega), if_neg (by omega), if_neg (by omega), if_neg (by omega), if_neg (by omega), if_neg (by omega)]
    rw [show lo4 z0 = 144 from if_pos (by omega), show hi4 z0 = 191 from if_neg (by omega)]
  rw [e1]
  clear e1
  subst h0
  simp only [Int.reduceToNat] at f0
  by_cases g1 : n < 4
  · rw [if_pos (by omega)]
    clear c1 c2 c3
    go_enter Tryd.func45, Tryd.ntmps45
    go_wp2
    go_ret2
    exact ⟨rfl, (Below.refl _ _).alloc (Nat.le_refl _) _⟩
  have c1 := c1 (by omega)
  have c2 := c2 (by omega)
  have c3 := c3 (by omega)
  by_cases g2 : z1 < 144
  · rw [if_pos (by omega)]
    go_enter Tryd.func45, Tryd.ntmps45
    go_wp2
    go_ret2
    exact ⟨rfl, (Below.refl _ _).alloc (Nat.le_refl _) _⟩
  by_cases g3 : 191 < z1
  · rw [if_pos (by omega)]
    go_enter Tryd.func45, Tryd.ntmps45
    go_wp2
    go_ret2
    exact ⟨rfl, (Below.refl _ _).alloc (Nat.le_refl _) _⟩
  by_cases g4 : z2 < 128
  · rw [if_pos (by omega)]
    go_enter Tryd.func45, Tryd.ntmps45
    go_wp2
    go_ret2
    exact ⟨rfl, (Below.refl _ _).alloc (Nat.le_refl _) _⟩
  by_cases g5 : 191 < z2
  · rw [if_pos (by omega)]
    go_enter Tryd.func45, Tryd.ntmps45
    go_wp2
    go_ret2
    exact ⟨rfl, (Below.refl _ _).alloc (Nat.le_refl _) _⟩
  by_cases g6 : z3 < 128
  · rw [if_pos (by omega)]
    go_enter Tryd.func45, Tryd.ntmps45
    go_wp2
    go_ret2
    exact ⟨rfl, (Below.refl _ _).alloc (Nat.le_refl _) _⟩
  by_cases g7 : 191 < z3
  · rw [if_pos (by omega)]
    go_enter Tryd.func45, Tryd.ntmps45
    go_wp2
    go_ret2
    exact ⟨rfl, (Below.refl _ _).alloc (Nat.le_refl _) _⟩
  rw [if_neg (by omega)]
  go_enter Tryd.func45, Tryd.ntmps45
  go_wp2
  go_ret2
  exact ⟨rfl, (Below.refl _ _).alloc (Nat.le_refl _) _⟩

set_option maxHeartbeats 2000000 in
set_option maxRecDepth 100000 in
theorem slow4_1 (b o n cap : Nat) (z0 z1 z2 z3 : Int) (w : World) (hn : n ≤ 9223372036854775807) (h0 : 241 ≤ z0 ∧ z0 < 244) (h2 : 0 ≤ z1) (h3 : z1 < 256) (h4 : 0 ≤ z2) (h5 : z2 < 256) (h6 : 0 ≤ z3) (h7 : z3 < 256) (hn1 : 1 ≤ n)
    (c0 : w.cell? ⟨b, o, none⟩ = some (.int .u8 z0)) (c1 : 2 ≤ n → w.cell? ⟨b, o + 1, none⟩ = some (.int .u8 z1)) (c2 : 3 ≤ n → w.cell? ⟨b, o + 2, none⟩ = some (.int .u8 z2)) (c3 : 4 ≤ n → w.cell? ⟨b, o + 3, none⟩ = some (.int .u8 z3))
    (f0 : w.cell? ⟨0, z0.toNat, none⟩ = some (.int .u8 4)) (a0 : w.cell? ⟨1, 0, none⟩ = some (.int .u8 128)) (a1 : w.cell? ⟨1, 1, none⟩ = some (.int .u8 191)) :
    Calls Tryd.prog 45 #[.slice (some ⟨b, o, none⟩) n cap] w fun e w' => (e = .returned (.tuple #[.int .i32 (dec n z0 z1 z2 z3).1, .int .i64 (dec n z0 z1 z2 z3).2])) ∧ Below w.heap.size w w' := by
  have hbw : b < w.heap.size := block_lt_of_cell c0
  have e1 : dec n z0 z1 z2 z3 = (if (n : Int) < 4 ∨ z1 < 128 ∨ 191 < z1 ∨ z2 < 128 ∨ 191 < z2 ∨ z3 < 128 ∨ 191 < z3 then (65533, 1) else (z0 % 8 * 262144 + z1 % 64 * 4096 + z2 % 64 * 64 + z3 % 64, 4)) := by
    unfold dec
    rw [if_neg (by omega), if_neg (by omega), if_neg (by omega), if_neg (by omega), if_neg (by omega), if_neg (by omega)]
    rw [show lo4 z0 = 128 from if_neg (by omega), show hi4 z0 = 191 from if_neg (by omega)]
  rw [e1]
  clear e1
  obtain ⟨h0, h0'⟩ := h0
  by_cases g1 : n < 4
  · rw [if_pos (by omega)]
    clear c1 c2 c3
    go_enter Tryd.func45, Tryd.ntmps45
    go_wp2
    go_ret2
    exact ⟨rfl, (Below.refl _ _).alloc (Nat.le_refl _) _⟩
  have c1 := c1 (by omega)
  have c2 := c2 (by omega)
  have c3 := c3 (by omega)
  by_cases g2 : z1 < 128
  · rw [if_pos (by omega)]
    go_enter Tryd.func45, Tryd.ntmps45
    go_wp2
    go_ret2
    exact ⟨rfl, (Below.refl _ _).alloc (Nat.le_refl _) _⟩
  by_cases g3 : 191 < z1
  · rw [if_pos (by omega)]
    go_enter Tryd.func45, Tryd.ntmps45
    go_wp2
    go_ret2
    exact ⟨rfl, (Below.refl _ _).alloc (Nat.le_refl _) _⟩
  by_cases g4 : z2 < 128
  · rw [if_pos (by omega)]
    go_enter Tryd.func45, Tryd.ntmps45
    go_wp2
    go_ret2
    exact ⟨rfl, (Below.refl _ _).alloc (Nat.le_refl _) _⟩
  by_cases g5 : 191 < z2
  · rw [if_pos (by omega)]
    go_enter Tryd.func45, Tryd.ntmps45
    go_wp2
    go_ret2
    exact ⟨rfl, (Below.refl _ _).alloc (Nat.le_refl _) _⟩
  by_cases g6 : z3 < 128
  · rw [if_pos (by omega)]
    go_enter Tryd.func45, Tryd.ntmps45
    go_wp2
    go_ret2
    exact ⟨rfl, (Below.refl _ _).alloc (Nat.le_refl _) _⟩
  by_cases g7 : 191 < z3
  · rw [if_pos (by omega)]
    go_enter Tryd.func45, Tryd.ntmps45
    go_wp2
    go_ret2
    exact ⟨rfl, (Below.refl _ _).alloc (Nat.le_refl _) _⟩
  rw [if_neg (by omega)]
  go_enter Tryd.func45, Tryd.ntmps45
  go_wp2
  go_ret2
  exact ⟨rfl, (Below.refl _ _).alloc (Nat.le_refl _) _⟩

set_option maxHeartbeats 2000000 in
set_option maxRecDepth 100000 in
theorem slow4_2 (b o n cap : Nat) (z0 z1 z2 z3 : Int) (w : World) (hn : n ≤ 9223372036854775807) (h0 : z0 = 244) (h2 : 0 ≤ z1) (h3 : z1 < 256) (h4 : 0 ≤ z2) (h5 : z2 < 256) (h6 : 0 ≤ z3) (h7 : z3 < 256) (hn1 : 1 ≤ n)
    (c0 : w.cell? ⟨b, o, none⟩ = some (.int .u8 z0)) (c1 : 2 ≤ n → w.cell? ⟨b, o + 1, none⟩ = some (.int .u8 z1)) (c2 : 3 ≤ n → w.cell? ⟨b, o + 2, none⟩ = some (.int .u8 z2)) (c3 : 4 ≤ n → w.cell? ⟨b, o + 3, none⟩ = some (.int .u8 z3))
    (f0 : w.cell? ⟨0, z0.toNat, none⟩ = some (.int .u8 68)) (a0 : w.cell? ⟨1, 8, none⟩ = some (.int .u8 128)) (a1 : w.cell? ⟨1, 9, none⟩ = some (.int .u8 143)) :
    Calls Tryd.prog 45 #[.slice (some ⟨b, o, none⟩) n cap] w fun e w' => (e = .returned (.tuple #[.int .i32 (dec n z0 z1 z2 z3).1, .int .i64 (dec n z0 z1 z2 z3).2])) ∧ Below w.heap.size w w' := by
  have hbw : b < w.heap.size := block_lt_of_cell c0
  have e1 : dec n z0 z1 z2 z3 = (if (n : Int) < 4 ∨ z1 < 128 ∨ 143 < z1 ∨ z2 < 128 ∨ 191 < z2 ∨ z3 < 128 ∨ 191 < z3 then (65533, 1) else (z0 % 8 * 262144 + z1 % 64 * 4096 + z2 % 64 * 64 + z3 % 64, 4)) := by
    unfold dec
    rw [if_neg (by omega), if_neg (by omega), if_neg (by omega), if_neg (by omega), if_neg (by omega), if_neg (by omega)]
    rw [show lo4 z0 = 128 from if_neg (by omega), show hi4 z0 = 143 from if_pos (by omega)]
  rw [e1]
  clear e1
  subst h0
  simp only [Int.reduceToNat] at f0
  by_cases g1 : n < 4
  · rw [if_pos (by omega)]
    clear c1 c2 c3
    go_enter Tryd.func45, Tryd.ntmps45
    go_wp2
    go_ret2
    exact ⟨rfl, (Below.refl _ _).alloc (Nat.le_refl _) _⟩
  have c1 := c1 (by omega)
  have c2 := c2 (by omega)
  have c3 := c3 (by omega)
  by_cases g2 : z1 < 128
  · rw [if_pos (by omega)]
    go_enter Tryd.func45, Tryd.ntmps45
    go_wp2
    go_ret2
    exact ⟨rfl, (Below.refl _ _).alloc (Nat.le_refl _) _⟩
  by_cases g3 : 143 < z1
  · rw [if_pos (by omega)]
    go_enter Tryd.func45, Tryd.ntmps45
    go_wp2
    go_ret2
    exact ⟨rfl, (Below.refl _ _).alloc (Nat.le_refl _) _⟩
  by_cases g4 : z2 < 128
  · rw [if_pos (by omega)]
    go_enter Tryd.func45, Tryd.ntmps45
    go_wp2
    go_ret2
    exact ⟨rfl, (Below.refl _ _).alloc (Nat.le_refl _) _⟩
  by_cases g5 : 191 < z2
  · rw [if_pos (by omega)]
    go_enter Tryd.func45, Tryd.ntmps45
    go_wp2
    go_ret2
    exact ⟨rfl, (Below.refl _ _).alloc (Nat.le_refl _) _⟩
  by_cases g6 : z3 < 128
  · rw [if_pos (by omega)]
    go_enter Tryd.func45, Tryd.ntmps45
    go_wp2
    go_ret2
    exact ⟨rfl, (Below.refl _ _).alloc (Nat.le_refl _) _⟩
  by_cases g7 : 191 < z3
  · rw [if_pos (by omega)]
    go_enter Tryd.func45, Tryd.ntmps45
    go_wp2
    go_ret2
    exact ⟨rfl, (Below.refl _ _).alloc (Nat.le_refl _) _⟩
  rw [if_neg (by omega)]
  go_enter Tryd.func45, Tryd.ntmps45
  go_wp2
  go_ret2
  exact ⟨rfl, (Below.refl _ _).alloc (Nat.le_refl _) _⟩

theorem bad_word_all : ∀ k : Fin 256, bits .or .i32 (bits .andNot .i32 ((k.val : Nat) : Int) (wrap32 517543559168 / 2147483648)) (bits .and .i32 65533 (wrap32 517543559168 / 2147483648)) = 65533 := by decide +kernel
theorem bad_word (z : Int) (h0 : 0 ≤ z) (h1 : z < 256) : bits .or .i32 (bits .andNot .i32 z (wrap32 517543559168 / 2147483648)) (bits .and .i32 65533 (wrap32 517543559168 / 2147483648)) = 65533 := by
  obtain ⟨k, rfl⟩ := Int.eq_ofNat_of_zero_le h0
  exact bad_word_all ⟨k, by omega⟩

set_option maxRecDepth 100000 in
theorem slow_bad (b o n cap : Nat) (z0 z1 z2 z3 : Int) (w : World) (hn : n ≤ 9223372036854775807) (h0 : 128 ≤ z0 ∧ z0 < 194 ∨ 244 < z0 ∧ z0 < 256) (hn1 : 1 ≤ n)
    (c0 : w.cell? ⟨b, o, none⟩ = some (.int .u8 z0)) (f0 : w.cell? ⟨0, z0.toNat, none⟩ = some (.int .u8 241)) :
    Calls Tryd.prog 45 #[.slice (some ⟨b, o, none⟩) n cap] w fun e w' => (e = .returned (.tuple #[.int .i32 (dec n z0 z1 z2 z3).1, .int .i64 (dec n z0 z1 z2 z3).2])) ∧ Below w.heap.size w w' := by
  have e1 : dec n z0 z1 z2 z3 = (65533, 1) := by
    unfold dec
    rcases h0 with h0 | h0
    · rw [if_neg (by omega), if_neg (by omega), if_pos (by omega)]
    · rw [if_neg (by omega), if_neg (by omega), if_neg (by omega), if_neg (by omega), if_neg (by omega), if_pos (by omega)]
  rw [e1]
  clear e1
  have hz : 0 ≤ z0 ∧ z0 < 256 := by omega
  obtain ⟨hz0, hz1⟩ := hz
  clear h0
  go_enter Tryd.func45, Tryd.ntmps45
  go_wp2
  rw [bad_word z0 hz0 hz1]
  go_ret2
  exact ⟨rfl, Below.refl _ _⟩

theorem slow_zero (b : Option Addr) (cap : Nat) (z0 z1 z2 z3 : Int) (w : World) :
    Calls Tryd.prog 45 #[.slice b 0 cap] w fun e w' => (e = .returned (.tuple #[.int .i32 65533, .int .i64 0])) ∧ Below w.heap.size w w' := by
  go_enter Tryd.func45, Tryd.ntmps45
  go_wp2
  go_ret2
  exact ⟨rfl, Below.refl _ _⟩

theorem slow_any (b o n cap : Nat) (z0 z1 z2 z3 : Int) (w : World) (hn : n ≤ 9223372036854775807) (hz : 128 ≤ z0 ∧ z0 < 256) (h1 : 0 ≤ z1 ∧ z1 < 256) (h2 : 0 ≤ z2 ∧ z2 < 256) (h3 : 0 ≤ z3 ∧ z3 < 256) (hn1 : 1 ≤ n)
    (c0 : w.cell? ⟨b, o, none⟩ = some (.int .u8 z0)) (c1 : 2 ≤ n → w.cell? ⟨b, o + 1, none⟩ = some (.int .u8 z1)) (c2 : 3 ≤ n → w.cell? ⟨b, o + 2, none⟩ = some (.int .u8 z2)) (c3 : 4 ≤ n → w.cell? ⟨b, o + 3, none⟩ = some (.int .u8 z3)) (hT : Tabs w) :
    Calls Tryd.prog 45 #[.slice (some ⟨b, o, none⟩) n cap] w fun e w' => (e = .returned (.tuple #[.int .i32 (dec n z0 z1 z2 z3).1, .int .i64 (dec n z0 z1 z2 z3).2])) ∧ Below w.heap.size w w' := by
  have f0 := hT.1 z0.toNat (by omega)
  rw [show ((z0.toNat : Nat) : Int) = z0 by omega] at f0
  have A := hT.2
  by_cases g1 : z0 < 194
  · rw [show firstT z0 = 241 by unfold firstT; rw [if_neg (by omega), if_pos g1]] at f0
    exact slow_bad b o n cap z0 z1 z2 z3 w hn (by omega) hn1 c0 f0
  by_cases g2 : z0 < 224
  · rw [show firstT z0 = 2 by unfold firstT; rw [if_neg (by omega), if_neg g1, if_pos g2]] at f0
    exact slow2 b o n cap z0 z1 z2 z3 w hn (by omega) g2 h1.1 h1.2 hn1 c0 c1 f0 (A 0 (by omega)).1 (A 0 (by omega)).2
  by_cases g3 : z0 = 224
  · rw [show firstT z0 = 19 by unfold firstT; rw [if_neg (by omega), if_neg g1, if_neg g2, if_pos g3]] at f0
    exact slow3_0 b o n cap z0 z1 z2 z3 w hn g3 h1.1 h1.2 h2.1 h2.2 h3.1 h3.2 hn1 c0 c1 c2 c3 f0 (A 1 (by omega)).1 (A 1 (by omega)).2
  by_cases g4 : z0 < 237
  · rw [show firstT z0 = 3 by unfold firstT; rw [if_neg (by omega), if_neg g1, if_neg g2, if_neg g3, if_pos g4]] at f0
    exact slow3_1 b o n cap z0 z1 z2 z3 w hn (by omega) h1.1 h1.2 h2.1 h2.2 h3.1 h3.2 hn1 c0 c1 c2 c3 f0 (A 0 (by omega)).1 (A 0 (by omega)).2
  by_cases g5 : z0 = 237
  · rw [show firstT z0 = 35 by unfold firstT; rw [if_neg (by omega), if_neg g1, if_neg g2, if_neg g3, if_neg g4, if_pos g5]] at f0
    exact slow3_2 b o n cap z0 z1 z2 z3 w hn g5 h1.1 h1.2 h2.1 h2.2 h3.1 h3.2 hn1 c0 c1 c2 c3 f0 (A 2 (by omega)).1 (A 2 (by omega)).2
  by_cases g6 : z0 < 240
  · rw [show firstT z0 = 3 by unfold firstT; rw [if_neg (by omega), if_neg g1, if_neg g2, if_neg g3, if_neg g4, if_neg g5, if_pos g6]] at f0
    exact slow3_1 b o n cap z0 z1 z2 z3 w hn (by omega) h1.1 h1.2 h2.1 h2.2 h3.1 h3.2 hn1 c0 c1 c2 c3 f0 (A 0 (by omega)).1 (A 0 (by omega)).2
  by_cases g7 : z0 = 240
  · rw [show firstT z0 = 52 by unfold firstT; rw [if_neg (by omega), if_neg g1, if_neg g2, if_neg g3, if_neg g4, if_neg g5, if_neg g6, if_pos g7]] at f0
    exact slow4_0 b o n cap z0 z1 z2 z3 w hn g7 h1.1 h1.2 h2.1 h2.2 h3.1 h3.2 hn1 c0 c1 c2 c3 f0 (A 3 (by omega)).1 (A 3 (by omega)).2
  by_cases g8 : z0 < 244
  · rw [show firstT z0 = 4 by unfold firstT; rw [if_neg (by omega), if_neg g1, if_neg g2, if_neg g3, if_neg g4, if_neg g5, if_neg g6, if_neg g7, if_pos g8]] at f0
    exact slow4_1 b o n cap z0 z1 z2 z3 w hn (by omega) h1.1 h1.2 h2.1 h2.2 h3.1 h3.2 hn1 c0 c1 c2 c3 f0 (A 0 (by omega)).1 (A 0 (by omega)).2
  by_cases g9 : z0 = 244
  · rw [show firstT z0 = 68 by unfold firstT; rw [if_neg (by omega), if_neg g1, if_neg g2, if_neg g3, if_neg g4, if_neg g5, if_neg g6, if_neg g7, if_neg g8, if_pos g9]] at f0
    exact slow4_2 b o n cap z0 z1 z2 z3 w hn g9 h1.1 h1.2 h2.1 h2.2 h3.1 h3.2 hn1 c0 c1 c2 c3 f0 (A 4 (by omega)).1 (A 4 (by omega)).2
  · rw [show firstT z0 = 241 by unfold firstT; rw [if_neg (by omega), if_neg g1, if_neg g2, if_neg g3, if_neg g4, if_neg g5, if_neg g6, if_neg g7, if_neg g8, if_neg g9]] at f0
    exact slow_bad b o n cap z0 z1 z2 z3 w hn (by omega) hn1 c0 f0

/-- What the bytes of a list tell, the missing ones as noughts. -/
def decB (bs : List UInt8) : Int × Int := dec bs.length (byt (bs[0]?.getD 0)) (byt (bs[1]?.getD 0)) (byt (bs[2]?.getD 0)) (byt (bs[3]?.getD 0))

set_option maxRecDepth 100000 in
theorem decode_ascii (b o n cap : Nat) (z0 : Int) (w : World) (hn : n ≤ 9223372036854775807) (hn1 : 1 ≤ n) (hz0 : 0 ≤ z0) (hz : z0 < 128) (c0 : w.cell? ⟨b, o, none⟩ = some (.int .u8 z0)) :
    Calls Tryd.prog 37 #[.slice (some ⟨b, o, none⟩) n cap] w fun e w' => e = .returned (.tuple #[.int .i32 z0, .int .i64 1]) ∧ w = w' := by
  go_enter Tryd.func37, Tryd.ntmps37
  go_wp2
  refine wp_loop_rounds 1 ?_
  rw [rounds_succ]
  go_wp2
  go_ret2
  exact ⟨rfl, rfl⟩

set_option maxRecDepth 100000 in
theorem decode_on (b o n cap : Nat) (z0 : Int) (w : World) (R K : Int) (hn : n ≤ 9223372036854775807) (hn1 : 1 ≤ n) (hz : 128 ≤ z0) (c0 : w.cell? ⟨b, o, none⟩ = some (.int .u8 z0))
    (cS : Calls Tryd.prog 45 #[.slice (some ⟨b, o, none⟩) n cap] w fun e w' => e = .returned (.tuple #[.int .i32 R, .int .i64 K]) ∧ Below w.heap.size w w') :
    Calls Tryd.prog 37 #[.slice (some ⟨b, o, none⟩) n cap] w fun e w' => e = .returned (.tuple #[.int .i32 R, .int .i64 K]) ∧ Below w.heap.size w w' := by
  have HS := Lib.hid cS
  clear cS
  go_enter Tryd.func37, Tryd.ntmps37
  go_wp2
  refine wp_loop_rounds 1 ?_
  rw [rounds_succ]
  go_wp2_with (go_at_call 45; refine HS.out.mono ?_; rintro e w1 ⟨rfl, hb1⟩)
  go_ret2
  exact ⟨rfl, hb1⟩

theorem decode_any (b o n cap : Nat) (bs : List UInt8) (w : World) (hl : bs.length = n) (hn : n ≤ 9223372036854775807) (hn1 : 1 ≤ n)
    (hc : ∀ i c, bs[i]? = some c → w.cell? ⟨b, o + i, none⟩ = some (.int .u8 (byt c))) (hT : Tabs w) :
    Calls Tryd.prog 37 #[.slice (some ⟨b, o, none⟩) n cap] w fun e w' => e = .returned (.tuple #[.int .i32 (decB bs).1, .int .i64 (decB bs).2]) ∧ Below w.heap.size w w' := by
  subst hl
  have get : ∀ i, i < bs.length → w.cell? ⟨b, o + i, none⟩ = some (.int .u8 (byt (bs[i]?.getD 0))) := fun i hi => by
    rw [List.getElem?_eq_getElem hi]
    exact hc i _ (List.getElem?_eq_getElem hi)
  have c0 := get 0 (by omega)
  rw [Nat.add_zero] at c0
  by_cases h : byt (bs[0]?.getD 0) < 128
  · have e : decB bs = (byt (bs[0]?.getD 0), 1) := by unfold decB dec; rw [if_neg (by omega), if_pos h]
    rw [e]
    exact (decode_ascii b o bs.length cap _ w hn hn1 (byt_nonneg _) h c0).mono fun e w' h => ⟨h.1, by rw [← h.2]; exact Below.refl _ _⟩
  · exact decode_on b o bs.length cap _ w _ _ hn hn1 (by omega) c0 (slow_any b o bs.length cap _ _ _ _ w hn ⟨by omega, byt_lt _⟩ ⟨byt_nonneg _, byt_lt _⟩ ⟨byt_nonneg _, byt_lt _⟩ ⟨byt_nonneg _, byt_lt _⟩ hn1 c0 (fun h => get 1 (by omega)) (fun h => get 2 (by omega)) (fun h => get 3 (by omega)) hT)
end Go.Proofs.YthbjibgfhagonaaDoor
