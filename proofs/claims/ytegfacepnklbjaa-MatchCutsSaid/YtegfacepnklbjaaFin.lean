/- The finder's state in memory: words for the walks, and what leaves it alone. No condition. -/
import Derived.Test.YtegfacepnklbjaaThree
import Derived.Maps.OwnOps
import Derived.Maps.OwnSet
import Derived.Maps.Views
namespace Go.Proofs.Ytegfacepnklbjaa
open Go.RowKit Go.Maps
set_option linter.unusedVariables false

theorem keyed55 : Keyed Try.prog 55 := int_keyed Try.underlying55
theorem zero3 (w : World) : (zeroValue 3).run Try.prog w = .ok (.int .i64 0) w := by kernel_rfl

/-- All but three blocks stays as it is. -/
structure Tur (w w' : World) (F M V : Nat) : Prop where
  os : w'.os = w.os
  tape : w'.tape = w.tape
  output : w'.output = w.output
  size : w.heap.size ≤ w'.heap.size
  block : ∀ k, k < w.heap.size → k ≠ F → k ≠ M → k ≠ V → w'.heap[k]? = w.heap[k]?
theorem Tur.refl (w : World) (F M V : Nat) : Tur w w F M V := ⟨rfl, rfl, rfl, Nat.le_refl _, fun _ _ _ _ _ => rfl⟩
theorem Tur.trans {w w' w'' : World} {F M V : Nat} (h : Tur w w' F M V) (k : Tur w' w'' F M V) : Tur w w'' F M V :=
  ⟨k.os.trans h.os, k.tape.trans h.tape, k.output.trans h.output, Nat.le_trans h.size k.size, fun i hi h1 h2 h3 => (k.block i (Nat.lt_of_lt_of_le hi h.size) h1 h2 h3).trans (h.block i hi h1 h2 h3)⟩
theorem Tur.of_below {w w' : World} (F M V : Nat) (h : Below w.heap.size w w') : Tur w w' F M V := ⟨h.os, h.tape, h.output, h.size, fun k hk _ _ _ => h.block k hk⟩
theorem Tur.of_grown {w w' : World} {F M V g : Nat} (h : w.grownBy w' (some g)) (hg : g = F ∨ g = M ∨ g = V) : Tur w w' F M V :=
  ⟨h.os, h.tape, h.output, h.size, fun k hk h1 h2 h3 => h.block k hk (fun e => by injection e with e; rcases hg with hg | hg | hg <;> omega)⟩
theorem Tur.below {w w' : World} {F M V B : Nat} (h : Tur w w' F M V) (hB : B ≤ w.heap.size) (h1 : B ≤ F) (h2 : B ≤ M) (h3 : B ≤ V) : Below B w w' :=
  ⟨h.os, h.tape, h.output, h.size, fun k hk => h.block k (by omega) (by omega) (by omega) (by omega)⟩
theorem Tur.of_set {w : World} {F M V : Nat} (a : Addr) (u : Value) (hg : a.block = F ∨ a.block = M ∨ a.block = V) : Tur w (w.setCell a u) F M V := by
  refine ⟨rfl, rfl, rfl, by simp, fun k hk h1 h2 h3 => ?_⟩
  exact heap_setCell_other w a k u (by rcases hg with hg | hg | hg <;> omega)

/-- The three bytes at a place, as a number. -/
def triAt (bs : List UInt8) (q : Nat) : Int := tri ((bs[q]?).getD 0) ((bs[q + 1]?).getD 0) ((bs[q + 2]?).getD 0)
def n0 : DataW Unit := .lit (.int .i64 0)
def keyA (h : Int) : Lit := .int .u32 h
/-- What the heads say when places ahead of nx are in. -/
structure Heads (bs : List UInt8) (D : DataW Unit) (nx : Nat) : Prop where
  le : ∀ h : Int, ∃ c : Nat, D.atKey (keyA h) n0 = .lit (.int .i64 c) ∧ c ≤ nx ∧ (0 < c → triAt bs (c - 1) = h)
  pos : ∀ q, q < nx → ∃ c : Nat, D.atKey (keyA (triAt bs q)) n0 = .lit (.int .i64 c) ∧ 0 < c
/-- The finder. -/
structure Fin (w : World) (F M V b o n cap : Nat) (bs : List UInt8) (ch en : Nat) (lz : Bool) (nx : Nat) : Prop where
  blk : w.heap[F]? = some (.cells #[.slice (some ⟨b, o, none⟩) n cap, .int .i64 ch, .int .i64 en, .bool lz, .map (some M), .slice (some ⟨V, 0, none⟩) n n, .int .i64 nx] 48 (0, 0))
  prev : ∃ cur, w.heap[V]? = some (.cells cur 3 (0, 0)) ∧ cur.size = n ∧ ∀ i, i < n → ∃ c : Nat, cur[i]? = some (.int .i64 c) ∧ c ≤ i
  map : ∃ D m, w.ownsMap Try.prog 55 (plainElem Try.prog 3) M m D ∧ m ≤ nx ∧ Heads bs D nx
  lie : Lie w b o bs
  apart : b ≠ F ∧ b ≠ M ∧ b ≠ V
  le : nx ≤ n

theorem Fin.keep {w w' : World} {F M V b o n cap : Nat} {bs : List UInt8} {ch en : Nat} {lz : Bool} {nx : Nat} (h : Fin w F M V b o n cap bs ch en lz nx) (hb : Below w.heap.size w w') : Fin w' F M V b o n cap bs ch en lz nx := by
  obtain ⟨cur, h1, h2, h3⟩ := h.prev
  obtain ⟨D, m, h4, h5, h6⟩ := h.map
  refine ⟨?_, ⟨cur, ?_, h2, h3⟩, ⟨D, m, ?_, h5, h6⟩, h.lie.below hb, h.apart, h.le⟩
  · rw [hb.block _ (Array.getElem?_eq_some_iff.1 h.blk).1]; exact h.blk
  · rw [hb.block _ (Array.getElem?_eq_some_iff.1 h1).1]; exact h1
  · exact h4.kept (row := none) ⟨hb.os, hb.tape, hb.output, hb.size, fun k hk _ => hb.block k hk⟩ (by simp)
theorem Fin.drewN {w : World} {F M V b o n cap : Nat} {bs : List UInt8} {ch en : Nat} {lz : Bool} {nx : Nat} (h : Fin w F M V b o n cap bs ch en lz nx) (k : Nat) : Fin (w.drewN k) F M V b o n cap bs ch en lz nx := h.keep (Below.drewN (Below.refl _ _) _)
theorem Fin.drew {w : World} {F M V b o n cap : Nat} {bs : List UInt8} {ch en : Nat} {lz : Bool} {nx : Nat} (h : Fin w F M V b o n cap bs ch en lz nx) : Fin w.drew F M V b o n cap bs ch en lz nx := h.keep (Below.drew (Below.refl _ _))
theorem Fin.bytes {w : World} {F M V b o n cap : Nat} {bs : List UInt8} {ch en : Nat} {lz : Bool} {nx : Nat} (h : Fin w F M V b o n cap bs ch en lz nx) {p : Nat} (hp : p + 3 ≤ bs.length) :
    ∃ c0 c1 c2, w.cell? ⟨b, o + p, none⟩ = some (.int .u8 (byt c0)) ∧ w.cell? ⟨b, o + p + 1, none⟩ = some (.int .u8 (byt c1)) ∧ w.cell? ⟨b, o + p + 2, none⟩ = some (.int .u8 (byt c2)) ∧ tri c0 c1 c2 = triAt bs p := by
  obtain ⟨c0, h0⟩ := at_some (us := bs) (k := p) (by omega)
  obtain ⟨c1, h1⟩ := at_some (us := bs) (k := p + 1) (by omega)
  obtain ⟨c2, h2⟩ := at_some (us := bs) (k := p + 2) (by omega)
  exact ⟨c0, c1, c2, h.lie _ _ h0, h.lie _ _ h1, h.lie _ _ h2, by unfold triAt; rw [h0, h1, h2]; rfl⟩
theorem tri_again {bs : List UInt8} {p q : Nat} (h : ∀ i, i < 3 → bs[q + i]? = bs[p + i]?) : triAt bs q = triAt bs p := by
  unfold triAt
  have h0 := h 0 (by omega); have h1 := h 1 (by omega); have h2 := h 2 (by omega)
  simp only [Nat.add_zero] at h0
  rw [h0, h1, h2]
theorem Heads.put {bs : List UInt8} {D : DataW Unit} {nx : Nat} (h : Heads bs D nx) (hD : IsMap D) : Heads bs (D.put (keyA (triAt bs nx)) (.lit (.int .i64 ((nx + 1 : Nat) : Int)))) (nx + 1) := by
  have hk : WideAt.IsKeyLit (keyA (triAt bs nx)) := by first | exact trivial | simp [WideAt.IsKeyLit, keyA]
  have same : ∀ z, (D.put (keyA (triAt bs nx)) (.lit (.int .i64 ((nx + 1 : Nat) : Int)))).atKey (keyA (triAt bs nx)) z = .lit (.int .i64 ((nx + 1 : Nat) : Int)) := fun z => atKey_put_same hD hk _ z
  refine ⟨fun x => ?_, fun q hq => ?_⟩
  · by_cases e : x = triAt bs nx
    · subst e; exact ⟨nx + 1, same _, Nat.le_refl _, fun _ => rfl⟩
    · obtain ⟨c, h1, h2, h3⟩ := h.le x
      exact ⟨c, by rw [atKey_put_other (fun e2 => e (by injection e2))]; exact h1, by omega, h3⟩
  · by_cases e : triAt bs q = triAt bs nx
    · rw [e]; exact ⟨nx + 1, same _, by omega⟩
    · have hq2 : q < nx := by
        rcases Nat.lt_or_ge q nx with h | h
        · exact h
        · have : q = nx := by omega
          exact absurd (by rw [this]) e
      obtain ⟨c, h1, h2⟩ := h.pos q hq2
      exact ⟨c, by rw [atKey_put_other (fun e2 => e (by injection e2))]; exact h1, h2⟩
/-- The heads' answer, and what is laid ahead of the place. -/
theorem Heads.at {bs : List UInt8} {D : DataW Unit} {nx : Nat} (h : Heads bs D nx) {p : Nat} {c : Int} (hc : D.atKey (keyA (triAt bs p)) n0 = .lit (.int .i64 c)) : ∃ k : Nat, c = k ∧ k ≤ nx ∧ ((∃ q, q < nx ∧ triAt bs q = triAt bs p) → 0 < k ∧ triAt bs (k - 1) = triAt bs p) := by
  obtain ⟨k, h1, h2, h3⟩ := h.le (triAt bs p)
  rw [h1] at hc
  have e : (k : Int) = c := by simpa using hc
  refine ⟨k, e.symm, h2, fun ⟨q, hq, hqt⟩ => ?_⟩
  obtain ⟨k2, h4, h5⟩ := h.pos q hq
  rw [hqt, h1] at h4
  have : (k : Int) = k2 := by simpa using h4
  exact ⟨by omega, h3 (by omega)⟩
end Go.Proofs.Ytegfacepnklbjaa
