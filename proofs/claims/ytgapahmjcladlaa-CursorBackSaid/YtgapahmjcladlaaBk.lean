/- Rows of bytes that come in, and rows that the call owns beside each other: words. -/
import Derived.Test.YtgapahmjcladlaaKnd
import Derived.Test.YtgapahmjcladlaaAlive
import Derived.Deep.DeepCutAuto
namespace Go.Proofs.Ytgapahmjcladlaa
open Go.RowKit
set_option linter.unusedVariables false

/-- Rows of bytes in memory. -/
def BRows (L : Nat) (w : World) (b o : Nat) (ls : List (List UInt8)) : Prop := ∀ i l, ls[i]? = some l → ∃ v, w.cell? ⟨b, o + i, none⟩ = some v ∧ Bv L w v l
theorem BRows.below {L : Nat} {w w' : World} {b o : Nat} {ls : List (List UInt8)} (h : BRows L w b o ls) (hb : Below w.heap.size w w') : BRows L w' b o ls := fun i l hi => by
  obtain ⟨v, h1, h2⟩ := h i l hi
  exact ⟨v, cell_at hb h1, h2.below hb⟩
theorem BRows.mono {L L' : Nat} {w : World} {b o : Nat} {ls : List (List UInt8)} (h : BRows L w b o ls) (hL : L ≤ L') : BRows L' w b o ls := fun i l hi => by
  obtain ⟨v, h1, h2⟩ := h i l hi
  exact ⟨v, h1, h2.mono hL⟩
theorem OwnF.mono {L : Nat} {w : World} {B B' e : Nat} {v : Value} {fs : List Fl} (h : OwnF L w B e v fs) (hB : B' ≤ B) : OwnF L w B' e v fs := by
  obtain ⟨xs, h1, h2, h3⟩ := h
  refine ⟨xs, ⟨h1.1, ?_⟩, h2, h3⟩
  rcases h1.2 with h0 | ⟨g, cap, cur, hv, hg, r⟩
  · exact .inl h0
  · exact .inr ⟨g, cap, cur, hv, by omega, r⟩
theorem OwnF.lower {L L' : Nat} {w : World} {B e : Nat} {v : Value} {fs : List Fl} (h : OwnF L w B e v fs) (hL : L ≤ L') : OwnF L' w B e v fs := by
  obtain ⟨xs, h1, h2, h3⟩ := h
  exact ⟨xs, h1, ⟨h2.1, fun i f hf => by
    obtain ⟨k1, k2, u, k3, k4⟩ := h2.2 i f hf
    exact ⟨k1, k2, u, k3, k4.mono hL⟩⟩, h3⟩
/-- Fields stay while a row of kinds grows. -/
theorem OwnF.apart {L : Nat} {w w' : World} {B : Nat} {v v2 : Value} {fs : List Fl} {ks : List Int} (h : OwnF L w B 39 v fs) (hI : OwnI w B v2 ks) (hg : w.grownBy w' v2.ownBlock) (hL : L ≤ B) (hB : B ≤ w.heap.size) : OwnF L w' B 39 v fs := by
  rcases hI.2 with ⟨hv, _⟩ | ⟨g, cap, cur, hv, hgB, hh, _⟩
  · subst hv
    exact h.below ⟨hg.os, hg.tape, hg.output, hg.size, fun k hk => hg.block k hk (fun e => by cases e)⟩
  · subst hv
    exact h.keep hg hh (by decide) ⟨Nat.le_trans hL hgB, _, _, _, hh, by decide⟩
/-- A row of kinds stays while fields grow. -/
theorem OwnI.apart {L : Nat} {w w' : World} {B : Nat} {v v2 : Value} {fs : List Fl} {ks : List Int} (hI : OwnI w B v2 ks) (h : OwnF L w B 39 v fs) (hg : w.grownBy w' v.ownBlock) : OwnI w' B v2 ks := by
  refine ⟨hI.1, ?_⟩
  rcases hI.2 with h0 | ⟨g, cap, cur, hv, hgB, hh, r⟩
  · exact .inl h0
  · refine .inr ⟨g, cap, cur, hv, hgB, ?_, r⟩
    rw [hg.block g (Array.getElem?_eq_some_iff.1 hh).1 (fun e => ?_)]
    · exact hh
    · obtain ⟨xs, h1, _⟩ := h
      rcases h1.2 with ⟨hv2, _⟩ | ⟨g', cap', cur', hv2, _, hh2, _⟩
      · subst hv2; simp [Value.ownBlock] at e
      · subst hv2
        simp only [Value.ownBlock, Option.some.injEq] at e
        rw [e, hh2] at hh
        simp at hh
theorem nflds_take {kd : Int} {ls : List (List UInt8)} {j : Nat} {l : List UInt8} (h : ls[j]? = some l) : nflds kd (ls.take (j + 1)) = nflds kd (ls.take j) ++ [⟨kd, l.length, []⟩] := by
  rw [List.take_add_one, h]; simp [nflds]
theorem bflds_take {ls : List (List UInt8)} {j : Nat} {l : List UInt8} (h : ls[j]? = some l) : bflds (ls.take (j + 1)) = bflds (ls.take j) ++ [⟨2, 0, l⟩] := by
  rw [List.take_add_one, h]; simp [bflds]
theorem nflds_len (kd : Int) (ls : List (List UInt8)) : (nflds kd ls).length = ls.length := by simp [nflds]
theorem bflds_len (ls : List (List UInt8)) : (bflds ls).length = ls.length := by simp [bflds]
theorem encF_num_le {kd : Int} (hk : kd = 0 ∨ kd = 1) (n : Nat) : (encF ⟨kd, n, []⟩).length ≤ 4 := by
  rcases hk with rfl | rfl
  · show (leB n 2).length ≤ 4; rw [leB_len]; omega
  · show (leB n 4).length ≤ 4; rw [leB_len]; omega
theorem write_nflds_le {kd : Int} (hk : kd = 0 ∨ kd = 1) (ls : List (List UInt8)) : (writeV (nflds kd ls)).length ≤ 4 * ls.length := by
  induction ls with
  | nil => simp [nflds, writeV]
  | cons l r ih =>
    show (encF ⟨kd, l.length, []⟩ ++ writeV (nflds kd r)).length ≤ _
    have := encF_num_le hk l.length
    rw [List.length_append, List.length_cons]; omega
theorem write_bflds_le (ls : List (List UInt8)) (h : ∀ l ∈ ls, l.length ≤ 1000) : (writeV (bflds ls)).length ≤ 1000 * ls.length := by
  induction ls with
  | nil => simp [bflds, writeV]
  | cons l r ih =>
    show (l ++ writeV (bflds r)).length ≤ _
    have h1 := h l (by simp)
    have h2 := ih (fun x hx => h x (by simp [hx]))
    rw [List.length_append, List.length_cons]; omega
theorem nflds_n {kd : Int} {ls : List (List UInt8)} (h : ∀ l ∈ ls, l.length ≤ 1000) : ∀ f ∈ nflds kd ls ++ bflds ls, f.n < 4294967296 := fun f hf => by
  rcases List.mem_append.1 hf with hf | hf
  · obtain ⟨l, hl, rfl⟩ := List.mem_map.1 hf
    have := h l hl
    show l.length < _; omega
  · obtain ⟨l, hl, rfl⟩ := List.mem_map.1 hf
    show 0 < _; omega
/-- What is read: the i-th number, the i-th row, the rest. -/
theorem back_num {kd : Int} {ls : List (List UInt8)} {rest : List UInt8} {i : Nat} {l : List UInt8} (h : ls[i]? = some l) : (nflds kd ls ++ bflds ls ++ [⟨3, 0, rest⟩])[i]? = some ⟨kd, l.length, []⟩ := by
  have hi : i < ls.length := by
    rcases Nat.lt_or_ge i ls.length with h2 | h2
    · exact h2
    · rw [List.getElem?_eq_none h2] at h; simp at h
  rw [List.append_assoc, List.getElem?_append_left (by rw [nflds_len]; exact hi)]
  exact nums_at h
theorem back_row {kd : Int} {ls : List (List UInt8)} {rest : List UInt8} {i t : Nat} {l : List UInt8} (h : ls[i]? = some l) (ht : ls.length + i = t) : (nflds kd ls ++ bflds ls ++ [⟨3, 0, rest⟩])[t]? = some ⟨2, 0, l⟩ := by
  have hi : i < ls.length := by
    rcases Nat.lt_or_ge i ls.length with h2 | h2
    · exact h2
    · rw [List.getElem?_eq_none h2] at h; simp at h
  rw [List.append_assoc, List.getElem?_append_right (by rw [nflds_len]; omega), nflds_len, show t - ls.length = i by omega, List.getElem?_append_left (by rw [bflds_len]; exact hi)]
  unfold bflds; rw [List.getElem?_map, h]; rfl
theorem back_rest {kd : Int} {ls : List (List UInt8)} {rest : List UInt8} {u : Nat} (hu : 2 * ls.length = u) : (nflds kd ls ++ bflds ls ++ [⟨3, 0, rest⟩])[u]? = some ⟨3, 0, rest⟩ := by
  rw [List.getElem?_append_right (by rw [List.length_append, nflds_len, bflds_len]; omega), List.length_append, nflds_len, bflds_len, show u - (ls.length + ls.length) = 0 by omega]; rfl
end Go.Proofs.Ytgapahmjcladlaa
