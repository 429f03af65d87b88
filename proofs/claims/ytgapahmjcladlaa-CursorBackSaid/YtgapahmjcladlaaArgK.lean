/- An argument's rows of bytes, out of what the reading gives. -/
import Derived.Test.YtgapahmjcladlaaLawK
namespace Go.Proofs.Ytgapahmjcladlaa
open Go.RowKit

theorem rows_of_cells {w : World} {a : Addr} {len cap : Nat} {A : Nat → Option Addr} {L C : Nat → Nat} {Z : Nat → List Int} (hl : len ≤ cap) (hm : cap ≤ maxLen)
    (h : ∀ r, r < cap → w.cell? (a.add r) = some (.slice (A r) (L r) (C r)) ∧ L r ≤ C r ∧ C r ≤ maxLen ∧ (Z r).length = C r ∧ (∀ n ∈ Z r, (Lit.int .u8 n).wf = true) ∧ (A r = none → C r = 0) ∧
      ∀ a', A r = some a' → 0 ≤ a'.block ∧ ∀ c, c < C r → w.cell? (a'.add c) = some (.int .u8 ((Z r).getD c 0))) :
    ∃ (ls : List (List UInt8)) (b o : Nat), ls.length = len ∧ len ≤ maxLen ∧ (ls = [] ∨ some a = some ⟨b, o, none⟩) ∧ BRows w.heap.size w b o ls ∧ ∀ l ∈ ls, l.length ≤ maxLen := by
  have each : ∀ r, r < cap → ∃ l : List UInt8, l.length = L r ∧ Bytes w (A r) l := fun r hr => by
    obtain ⟨_, h2, h3, h4, h5, h6, h7⟩ := h r hr
    cases hA : A r with
    | none => exact ⟨[], by have := h6 hA; simp; omega, .inl rfl⟩
    | some x =>
      obtain ⟨l, e1, _, e3⟩ := bytes_of_cells (w := w) (x := x) h2 h3 h4 (fun i hi => (h7 x hA).2 i (by omega)) h5
      exact ⟨l, e1, e3⟩
  let f : Nat → List UInt8 := fun r => if hr : r < cap then Classical.choose (each r hr) else []
  have hf : ∀ r, r < cap → (f r).length = L r ∧ Bytes w (A r) (f r) := fun r hr => by
    have := Classical.choose_spec (each r hr)
    simp only [f, hr, dif_pos]
    exact this
  have hlen : ∀ l ∈ (List.range len).map f, l.length ≤ maxLen := fun l hl2 => by
    obtain ⟨r, hr, rfl⟩ := List.mem_map.1 hl2
    have hr2 : r < len := by simpa using hr
    obtain ⟨_, h2, h3, _⟩ := h r (by omega)
    have := (hf r (by omega)).1
    omega
  by_cases h0 : len = 0
  · subst h0
    exact ⟨[], 0, 0, rfl, by omega, .inl rfl, fun i l hi => by simp at hi, fun l hl => by cases hl⟩
  · obtain ⟨b, o, spot⟩ := a
    have hc := (h 0 (by omega)).1
    have hspot : spot = none := by simpa [Addr.add] using World.cell?_spot hc
    subst hspot
    refine ⟨(List.range len).map f, b, o, by simp, by omega, .inr rfl, fun i l hi => ?_, hlen⟩
    have hil : i < len := by
      rcases Nat.lt_or_ge i len with h | h
      · exact h
      · rw [List.getElem?_eq_none (by simp; omega)] at hi; simp at hi
    have hl2 : f i = l := by simpa [hil] using hi
    subst hl2
    obtain ⟨h1, h2, h3, h4, h5, h6, h7⟩ := h i (by omega)
    obtain ⟨g1, g2⟩ := hf i (by omega)
    have hadd : (⟨b, o, none⟩ : Addr).add i = ⟨b, o + i, none⟩ := by unfold Addr.add; split <;> simp_all
    refine ⟨.slice (A i) (L i) (C i), by rw [← hadd]; exact h1, ?_⟩
    have := Bv.of_below (L := w.heap.size) (ad := A i) (c := C i) (bs := f i) (by omega) h6 g2 (Nat.le_refl _)
    rw [g1] at this
    exact this
end Go.Proofs.Ytgapahmjcladlaa
