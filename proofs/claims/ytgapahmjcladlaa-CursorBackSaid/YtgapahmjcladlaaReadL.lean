/- Words for the reading of fields: ints in memory, the reader's steps, the plain reading. -/
import Derived.Test.YtgapahmjcladlaaFldC
namespace Go.Proofs.Ytgapahmjcladlaa
open Go.RowKit
set_option linter.unusedVariables false

/-- Ints that lie in memory. -/
def Ints (w : World) (a : Option Addr) (ks : List Int) : Prop :=
  ks = [] ∨ ∃ b o, a = some ⟨b, o, none⟩ ∧ ∀ i c, ks[i]? = some c → w.cell? ⟨b, o + i, none⟩ = some (.int .i64 c)
theorem Ints.below {w w' : World} {a : Option Addr} {ks : List Int} (h : Ints w a ks) (hb : Below w.heap.size w w') : Ints w' a ks := by
  rcases h with h | ⟨b, o, ha, hc⟩
  · exact .inl h
  · exact .inr ⟨b, o, ha, fun i c hi => by
      have h1 := hc i c hi
      rw [hb.cell (block_lt_of_cell h1)]; exact h1⟩
theorem Ints.at {w : World} {a : Option Addr} {ks : List Int} (h : Ints w a ks) {i : Nat} (hi : i < ks.length) : ∃ b o c, a = some ⟨b, o, none⟩ ∧ ks[i]? = some c ∧ w.cell? ⟨b, o + i, none⟩ = some (.int .i64 c) := by
  rcases h with h | ⟨b, o, ha, hc⟩
  · subst h; simp at hi
  · exact ⟨b, o, ks[i], ha, List.getElem?_eq_getElem hi, hc i _ (List.getElem?_eq_getElem hi)⟩

/-- How many fields of bytes there are. -/
def cnt : List Int → Nat
  | [] => 0
  | k :: r => (if k = 2 then 1 else 0) + cnt r
theorem cnt_snoc (ks : List Int) (k : Int) : cnt (ks ++ [k]) = cnt ks + (if k = 2 then 1 else 0) := by
  induction ks with
  | nil => simp [cnt]
  | cons x r ih => simp only [List.cons_append, cnt, ih]; omega
theorem cnt_le (ks : List Int) : cnt ks ≤ ks.length := by
  induction ks with
  | nil => simp [cnt]
  | cons x r ih => simp only [cnt, List.length_cons]; split <;> omega
theorem cnt_pos {ks : List Int} {i : Nat} (h : ks[i]? = some 2) : 1 ≤ cnt ks := by
  induction ks generalizing i with
  | nil => simp at h
  | cons x r ih =>
    cases i with
    | zero => simp at h; simp [cnt, h]
    | succ i => simp at h; have := ih h; simp only [cnt]; omega
theorem cnt_take {ks : List Int} {i : Nat} {k : Int} (h : ks[i]? = some k) : cnt (ks.take (i + 1)) = cnt (ks.take i) + (if k = 2 then 1 else 0) := by
  rw [List.take_add_one, h, ← cnt_snoc]; rfl
/-- Fields from a place on. -/
def readAll (bs : List UInt8) (many : Nat) : Nat → List Fl → List Int → Option (List Fl × Nat)
  | p, fs, [] => some (fs, p)
  | p, fs, k :: r => match readOne bs p fs many k with
    | some (f, q) => readAll bs many q (fs ++ [f]) r
    | none => none
def readV (bs : List UInt8) (at_ : Int) (ks : List Int) : Option (List Fl × Nat) :=
  if 0 ≤ at_ ∧ at_ ≤ bs.length then readAll bs (cnt ks) at_.toNat [] ks else none
theorem drop_at {ks : List Int} {i : Nat} {k : Int} (h : ks[i]? = some k) : ks.drop i = k :: ks.drop (i + 1) := by
  have hi : i < ks.length := by
    rcases Nat.lt_or_ge i ks.length with h2 | h2
    · exact h2
    · rw [List.getElem?_eq_none h2] at h; simp at h
  rw [List.drop_eq_getElem_cons hi]
  rw [List.getElem?_eq_getElem hi] at h
  simp at h
  rw [h]

theorem Rd.count {w : World} {R : Nat} {a : Option Addr} {n cap : Nat} {p : Int} {lv : Value} {many : Nat} (h : Rd w R a n cap p lv many) (m2 : Nat) : Rd (w.setCell ⟨R, 3, none⟩ (.int .i64 m2)) R a n cap p lv m2 :=
  ⟨by rw [heap_setCell_same w R 3 _ 52 _ h.blk]; rfl, h.lst⟩
theorem Rd.list {w : World} {R : Nat} {a : Option Addr} {n cap : Nat} {p : Int} {lv : Value} {many : Nat} (h : Rd w R a n cap p lv many) (v2 : Value) (hv : ∃ ao k c, v2 = .slice ao k c) : Rd (w.setCell ⟨R, 2, none⟩ v2) R a n cap p v2 many :=
  ⟨by rw [heap_setCell_same w R 2 _ 52 _ h.blk]; rfl, hv⟩
theorem below_set_R {w w' : World} {B R i : Nat} {u : Value} (h : Below B w w') (hR : B ≤ R) : Below B w (w'.setCell ⟨R, i, none⟩ u) :=
  ⟨h.os, h.tape, h.output, by rw [World.size_setCell]; exact h.size, fun k hk => by
    rw [heap_setCell_other w' ⟨R, i, none⟩ k _ (fun e => by have : k = R := e; omega)]
    exact h.block k hk⟩
theorem below_grownR {w w' : World} {R B : Nat} (h : w.grownBy w' (some R)) (hB : B ≤ R) (hBw : B ≤ w.heap.size) : Below B w w' :=
  ⟨h.os, h.tape, h.output, h.size, fun k hk => h.block k (by omega) (fun e => by have : k = R := (by simpa using e); omega)⟩
theorem Rd.app {w w' : World} {R : Nat} {a : Option Addr} {n cap : Nat} {p : Int} {lv : Value} {many B L : Nat} {fs : List Fl} (h : Rd w R a n cap p lv many) (hO : OwnF L w B 39 lv fs) (hg : w.grownBy w' lv.ownBlock) : Rd w' R a n cap p lv many := by
  refine ⟨?_, h.lst⟩
  rw [hg.block R (Array.getElem?_eq_some_iff.1 h.blk).1 (fun e => ?_)]
  · exact h.blk
  · obtain ⟨xs, h1, _⟩ := hO
    rcases h1.2 with ⟨hv, _⟩ | ⟨g, cap', cur, hv, _, hh, _⟩
    · rw [hv] at e; simp [Value.ownBlock] at e
    · rw [hv] at e
      simp [Value.ownBlock] at e
      rw [← e, h.blk] at hh
      simp at hh
end Go.Proofs.Ytgapahmjcladlaa
