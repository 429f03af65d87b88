/- A name without great letters: what the call computes. -/
import Derived.Test.YthedhominhgeaaaDoorRight
import Derived.Laws.IdiomStrings
import Derived.BigQuiet
namespace Go.Proofs.YthedhominhgeaaaDoor
open Go.RowKit
set_option linter.unusedVariables false
attribute [local go_sem] nat_byt str_size str_get str_from str_to str_list lit_nil

def fold1 (c : UInt8) : UInt8 := if letter c then c ||| 32 else c
def foldL (l : List UInt8) : List UInt8 := l.map fold1
theorem or_byt (c : UInt8) : bits .or .u8 (byt c) 32 = byt (c ||| 32) := by
  have h : ∀ n : Fin 256, ((n : Nat) ||| 32 : Nat) = (UInt8.ofNat n ||| 32).toNat := by decide +kernel
  have h2 := h ⟨c.toNat, c.toNat_lt⟩
  rw [u8_or _ _ (byt_nonneg c) (byt_lt c) (by decide) (by decide)]
  unfold byt
  rw [Int.toNat_natCast]
  simp only at h2
  have h3 : (32 : Int).toNat = 32 := rfl
  rw [h3, h2]; simp
/-- Bytes that lie in the block F from its head on, and may be written. -/
structure Row (F : Nat) (cur : List UInt8) (W : World) : Prop where
  c : ∀ i x, cur[i]? = some x → W.cell? ⟨F, i, none⟩ = some (.int .u8 (byt x))
  f : ∀ i, i < cur.length → W.frozen? ⟨F, i, none⟩ = false
theorem Row.below {F : Nat} {cur : List UInt8} {W W' : World} (h : Row F cur W) (hb : Below W.heap.size W W') : Row F cur W' :=
  ⟨fun i x hi => by rw [hb.cell (block_lt_of_cell (h.c i x hi))]; exact h.c i x hi, fun i hi => by
    have hc := h.c i _ (List.getElem?_eq_getElem hi)
    exact (World.frozen?_of_block (hb.block F (block_lt_of_cell hc))).trans (h.f i hi)⟩
theorem row_of_text (w : World) (l : List UInt8) (cap : Nat) :
    Row w.heap.size l (w.drew.alloc (.cells (bytesRow (str l) cap) 5 ((bytesRow (str l) cap).size, (bytesRow (str l) cap).size + 1))) := by
  have hb : (w.drew.alloc (.cells (bytesRow (str l) cap) 5 ((bytesRow (str l) cap).size, (bytesRow (str l) cap).size + 1))).heap[w.heap.size]? = some (.cells (bytesRow (str l) cap) 5 ((bytesRow (str l) cap).size, (bytesRow (str l) cap).size + 1)) := heap_alloc_new w.drew _
  refine ⟨fun i x hi => ?_, fun i hi => ?_⟩
  · rw [cell_of_row _ _ _ _ _ _ hb]
    unfold bytesRow
    have hl : i < l.length := by
      rcases Nat.lt_or_ge i l.length with h | h
      · exact h
      · rw [List.getElem?_eq_none h] at hi; simp at hi
    rw [Array.getElem?_append_left (by simpa [str] using hl), Array.getElem?_map]
    have : (str l).data[i]? = some x := by
      unfold str; simpa using hi
    rw [this]; rfl
  · have : l.length ≤ (bytesRow (str l) cap).size := by
      unfold bytesRow; simp [str]
    simp only [World.frozen?, hb]
    simp; intro h; omega
theorem Row.set {F : Nat} {cur : List UInt8} {W : World} (h : Row F cur W) {k : Nat} (hk : k < cur.length) (y : UInt8) : Row F (cur.set k y) (W.setCell ⟨F, k, none⟩ (.int .u8 (byt y))) := by
  refine ⟨fun i x hi => ?_, fun i hi => ?_⟩
  · by_cases e : k = i
    · subst e
      rw [List.getElem?_set_self hk] at hi
      injection hi with hi
      subst hi
      exact World.cell?_setCell_same' _ _ _ (by rw [h.c k _ (List.getElem?_eq_getElem hk)]; rfl)
    · rw [List.getElem?_set_ne e] at hi
      rw [World.cell?_setCell_other]
      · exact h.c i x hi
      · intro e2; cases e2; exact e rfl
  · rw [World.frozen?_setCell]
    exact h.f i (by simpa using hi)
def foldTo (l : List UInt8) (k : Nat) : List UInt8 := (l.take k).map fold1 ++ l.drop k
theorem foldTo_at {l : List UInt8} {k : Nat} {c : UInt8} (h : l[k]? = some c) : (foldTo l k)[k]? = some c ∧ foldTo l (k + 1) = (foldTo l k).set k (fold1 c) := by
  have hk : k < l.length := by
    rcases Nat.lt_or_ge k l.length with h2 | h2
    · exact h2
    · rw [List.getElem?_eq_none h2] at h; simp at h
  have hlen : ((l.take k).map fold1).length = k := by rw [List.length_map, List.length_take]; omega
  have hd : l.drop k = c :: l.drop (k + 1) := by
    rw [List.drop_eq_getElem_cons hk]
    rw [List.getElem?_eq_getElem hk] at h
    injection h with h
    rw [h]
  refine ⟨?_, ?_⟩
  · unfold foldTo
    rw [List.getElem?_append_right (by omega), hlen, Nat.sub_self, hd]; rfl
  · unfold foldTo
    rw [hd, List.set_append_right _ _ (by omega), hlen, Nat.sub_self, List.take_add_one, h]
    simp
theorem foldTo_len (l : List UInt8) (k : Nat) : (foldTo l k).length = l.length := by
  unfold foldTo; rw [List.length_append, List.length_map, List.length_take, List.length_drop]; omega
theorem Row.back {F : Nat} {cur : List UInt8} {W : World} {n cap : Nat} (h : Row F cur W) (hn : cur.length = n) : (convert 34 9 (.slice (some ⟨F, 0, none⟩) n cap)).run Tryd.prog W = .ok (.string (str cur)) W := by
  subst hn
  refine run_convert_bytes_back W 34 9 5 ⟨F, 0, none⟩ cap cur Tryd.underlying34 Tryd.underlying5 Tryd.underlying9 (fun j hj => ?_)
  have hadd : (⟨F, 0, none⟩ : Addr).add j = ⟨F, 0 + j, none⟩ := by unfold Addr.add; split <;> simp_all
  rw [hadd, Nat.zero_add, h.c j _ (List.getElem?_eq_getElem hj)]; rfl
attribute [local go_sem] or_byt

set_option maxHeartbeats 1000000 in
theorem fold_any (l : List UInt8) (w : World) (hl : l.length ≤ 1099511627776) : Calls Tryd.prog 18 #[.string (str l)] w fun e w' => e = .returned (.string (str (foldL l))) ∧ Below w.heap.size w w' := by
  have HT := Lib.hid (fun c w => letter_any c w)
  have q9 : ∀ w, (convert 9 34 (.string (str l))).run Tryd.prog w = .ok (.slice (some ⟨w.heap.size, 0, none⟩) l.length (grownCap w l.length 0 5))
      (w.drew.alloc (.cells (bytesRow (str l) (grownCap w l.length 0 5)) 5 ((bytesRow (str l) (grownCap w l.length 0 5)).size, (bytesRow (str l) (grownCap w l.length 0 5)).size + 1))) := fun w => by
    have := run_bytes_of_string w 9 34 5 (str l) Tryd.underlying9 Tryd.underlying34 Tryd.underlying5
    rw [str_size] at this
    exact this
  obtain ⟨w1, hw1⟩ : ∃ x, x = w.drew.alloc (.cells (bytesRow (str l) (grownCap w l.length 0 5)) 5 ((bytesRow (str l) (grownCap w l.length 0 5)).size, (bytesRow (str l) (grownCap w l.length 0 5)).size + 1)) := ⟨_, rfl⟩
  have hr : Row w.heap.size (foldTo l 0) w1 := by rw [hw1]; exact row_of_text w l _
  have hb1 : Below w.heap.size w w1 := by rw [hw1]; exact (Below.drew (Below.refl _ _)).alloc (Nat.le_refl _) _
  have q := q9 w
  rw [← hw1] at q
  obtain ⟨cap, hcap⟩ : ∃ c, c = grownCap w l.length 0 5 := ⟨_, rfl⟩
  have hge : l.length ≤ cap := by rw [hcap]; exact grownCap_ge _ _ _ _
  rw [← hcap] at q
  obtain ⟨n, hn⟩ : ∃ n, n = l.length := ⟨_, rfl⟩
  rw [← hn] at q hge hl
  have HN := Lib.hid hn
  obtain ⟨F, hF⟩ : ∃ F, F = w.heap.size := ⟨_, rfl⟩
  rw [← hF] at q hr
  have HF := Lib.hid hF
  have HR := Lib.hid hr; have HB := Lib.hid hb1
  clear q9 hw1 hr hb1 hcap hn hF
  go_enter Tryd.func18, Tryd.ntmps18
  go_wp2_with fail
  clear q
  go_loopw [10] (fun s10 wx => ∃ (k : Nat), k ≤ n ∧ s10 = .int .i64 k ∧ Hid (Row F (foldTo l k) wx) ∧ Hid (Below w.heap.size w wx)) (fun i _ => n - (intOf i).toNat)
  case atStart => exact ⟨0, by omega, rfl, HR, HB⟩
  case round =>
    clear HR HB
    obtain ⟨k, hk, rfl, HR, HB⟩ := hrel
    by_cases hlt : k < n
    · obtain ⟨c, hc⟩ : ∃ c, l[k]? = some c := ⟨l[k]'(by have := HN.out; omega), List.getElem?_eq_getElem _⟩
      obtain ⟨h1, h2⟩ := foldTo_at hc
      have hcell := HR.out.c k c h1
      have hfz := HR.out.f k (by rw [foldTo_len, ← HN.out]; exact hlt)
      have i2 : (k : Int) < (n : Int) := by omega
      have i3 : (k : Int) < (cap : Int) := by omega
      have H2 := Lib.hid h2
      clear hc h1 h2
      cases hlet : letter c with
      | true =>
        have HS := Lib.hid (HR.out.set (k := k) (by rw [foldTo_len, ← HN.out]; exact hlt) (fold1 c))
        have hf1 : fold1 c = c ||| 32 := by unfold fold1; rw [hlet]; rfl
        rw [← H2.out, hf1] at HS
        have HB2 : Hid (Below w.heap.size w (wr.setCell ⟨F, k, none⟩ (.int .u8 (byt (c ||| 32))))) := Lib.hid (HB.out.setCell (p := ⟨F, k, none⟩) (by show _ ≤ F; rw [HF.out]; exact Nat.le_refl _) _)
        clear hf1 H2
        go_wp2_with (go_at_call 41; refine (HT.out _ _).mono ?_; rw [hlet]; rintro e w3 ⟨rfl, rfl⟩)
        go_roundw
        case rel => exact ⟨k + 1, by omega, by simp, HS, HB2⟩
        case measure => simp [intOf]; omega
      | false =>
        have hf1 : fold1 c = c := by unfold fold1; rw [hlet]; rfl
        have HR2 : Hid (Row F (foldTo l (k + 1)) wr) := by
          rw [H2.out, hf1]
          have : (foldTo l k).set k c = foldTo l k := by
            apply List.ext_getElem?
            intro i
            by_cases e : k = i
            · subst e
              rw [List.getElem?_set_self (by rw [foldTo_len, ← HN.out]; exact hlt)]
              have h := HR.out.c
              obtain ⟨c', hc'⟩ : ∃ c', l[k]? = some c' := ⟨l[k]'(by have := HN.out; omega), List.getElem?_eq_getElem _⟩
              obtain ⟨g1, _⟩ := foldTo_at hc'
              have := h k c' g1
              rw [this] at hcell
              have hb : byt c' = byt c := by simpa using hcell
              rw [g1, byt_inj hb]
            · rw [List.getElem?_set_ne e]
          rw [this]; exact HR
        clear hf1 H2
        go_wp2_with (go_at_call 41; refine (HT.out _ _).mono ?_; rw [hlet]; rintro e w3 ⟨rfl, rfl⟩)
        go_roundw
        case rel => exact ⟨k + 1, by omega, by simp, HR2, HB⟩
        case measure => simp [intOf]; omega
    · have hkn : k = l.length := by rw [← HN.out]; omega
      have hft : foldTo l k = foldL l := by unfold foldTo foldL; rw [hkn, List.take_length, List.drop_length, List.append_nil]
      rw [hft] at HR
      have q := HR.out.back (cap := cap) (n := n) (by unfold foldL; rw [List.length_map, ← HN.out])
      clear hft hkn
      go_wp2_with fail
      go_ret
      exact ⟨rfl, HB.out⟩
end Go.Proofs.YthedhominhgeaaaDoor
