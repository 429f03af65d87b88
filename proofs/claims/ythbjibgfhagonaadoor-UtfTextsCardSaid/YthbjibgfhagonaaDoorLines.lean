/- Lines: what the call computes, for all bytes. -/
import Derived.Test.YthbjibgfhagonaaDoorRep
namespace Go.Proofs.YthbjibgfhagonaaDoor
open Go.RowKit
set_option linter.unusedVariables false

/-- A slice value that holds these bytes. -/
def IsB (w : World) (v : Value) (bs : List UInt8) : Prop := ∃ a n cap, v = .slice a n cap ∧ bs.length = n ∧ n ≤ cap ∧ (a = none → n = 0 ∧ cap = 0) ∧ Bytes w a bs
theorem OwnB.isB {w : World} {B : Nat} {v : Value} {bs : List UInt8} (h : OwnB w B 5 v bs) : IsB w v bs := by
  rcases h.2 with ⟨hv, h0⟩ | ⟨g, cap, cur, hv, hg, hh, hcap, hm, hs, ht⟩
  · have : bs = [] := List.length_eq_zero_iff.1 h0
    subst this
    exact ⟨none, 0, 0, hv, rfl, by omega, fun _ => ⟨rfl, rfl⟩, .inl rfl⟩
  · subst hv
    exact ⟨some ⟨g, 0, none⟩, bs.length, cap, rfl, rfl, hcap, fun h => by simp at h, OwnB.bytes' h rfl⟩
theorem IsB.below {w w' : World} {v : Value} {bs : List UInt8} (h : IsB w v bs) (hb : Below w.heap.size w w') : IsB w' v bs := by
  obtain ⟨a, n, cap, rfl, h1, h2, h3, h4⟩ := h
  exact ⟨a, n, cap, rfl, h1, h2, h3, h4.below hb⟩

theorem repAll_none {old : List UInt8} {c : UInt8} {s : List UInt8} (h : Lib.count s old = 0) : repAll old c s = s := by unfold repAll; rw [h, rep_zero]

theorem replace_any (a : Option Addr) (n cap : Nat) (bs old : List UInt8) (b2 o2 d c2 : Nat) (nc : UInt8) (b3 o3 k3 : Nat) (w : World) (hl : bs.length = n) (hd : old.length = d) (hd1 : d = 1 ∨ d = 2) (hn : n ≤ 1000000) (hcap : n ≤ cap) (hnil : a = none → n = 0 ∧ cap = 0)
    (hb : Bytes w a bs) (ho : ∀ i c, old[i]? = some c → w.cell? ⟨b2, o2 + i, none⟩ = some (.int .u8 (byt c)))
    (hnew : w.cell? ⟨b3, o3, none⟩ = some (.int .u8 (byt nc))) (hT : Tab2 w) :
    Calls Tryd.prog 46 #[.slice a n cap, .slice (some ⟨b2, o2, none⟩) d c2, .slice (some ⟨b3, o3, none⟩) 1 k3, .int .i64 (-1)] w fun e w' => ∃ v, e = .returned v ∧ IsB w' v (repAll old nc bs) ∧ Below w.heap.size w w' := by
  by_cases h0 : Lib.count bs old = 0
  · rw [repAll_none h0]
    exact (replace_none a n cap bs old b2 o2 d c2 (.int .i64 0) (some ⟨b3, o3, none⟩) k3 w hl hd hd1 hn hcap hnil hb ho hT h0).mono fun e w' ⟨v, h1, h2, h3⟩ => ⟨v, h1, h2.isB, h3⟩
  · rcases hb with rfl | ⟨b, o, rfl, hb⟩
    · exfalso
      apply h0
      apply Lib.count_miss
      cases old with
      | nil => simp at hd; omega
      | cons x t => rfl
    · rcases hd1 with rfl | rfl
      · exact (replace_1 b o n cap bs old b2 o2 c2 nc b3 o3 k3 w hl hd hn hcap hb ho hnew hT _ rfl (by omega)).mono fun e w' ⟨g, n', cap', h1, h2, h3, h4, h5⟩ => ⟨_, h1, ⟨_, n', cap', rfl, h3, h2, fun h => by simp at h, h4⟩, h5⟩
      · exact (replace_2 b o n cap bs old b2 o2 c2 nc b3 o3 k3 w hl hd hn hcap hb ho hnew hT _ rfl (by omega)).mono fun e w' ⟨g, n', cap', h1, h2, h3, h4, h5⟩ => ⟨_, h1, ⟨_, n', cap', rfl, h3, h2, fun h => by simp at h, h4⟩, h5⟩

theorem replaceAll_any (a : Option Addr) (n cap : Nat) (bs old : List UInt8) (b2 o2 d c2 : Nat) (nc : UInt8) (b3 o3 k3 : Nat) (w : World) (hl : bs.length = n) (hd : old.length = d) (hd1 : d = 1 ∨ d = 2) (hn : n ≤ 1000000) (hcap : n ≤ cap) (hnil : a = none → n = 0 ∧ cap = 0)
    (hb : Bytes w a bs) (ho : ∀ i c, old[i]? = some c → w.cell? ⟨b2, o2 + i, none⟩ = some (.int .u8 (byt c)))
    (hnew : w.cell? ⟨b3, o3, none⟩ = some (.int .u8 (byt nc))) (hT : Tab2 w) :
    Calls Tryd.prog 40 #[.slice a n cap, .slice (some ⟨b2, o2, none⟩) d c2, .slice (some ⟨b3, o3, none⟩) 1 k3] w fun e w' => ∃ v, e = .returned v ∧ IsB w' v (repAll old nc bs) ∧ Below w.heap.size w w' := by
  have hR := replace_any a n cap bs old b2 o2 d c2 nc b3 o3 k3 w hl hd hd1 hn hcap hnil hb ho hnew hT
  have HR := Lib.hid hR
  clear hR hl hd hd1 hb ho hnew hT hnil
  go_enter Tryd.func40, Tryd.ntmps40
  go_wp2_with (go_at_call 46; refine HR.out.mono ?_; rintro e w1 ⟨v, rfl, hv, hb1⟩)
  go_ret
  exact ⟨v, rfl, hv, hb1⟩

def linesB (bs : List UInt8) : List UInt8 := repAll [13] 10 (repAll [13, 10] 10 bs)
theorem repAll_le {old : List UInt8} {c : UInt8} {s : List UInt8} (h1 : old ≠ []) : (repAll old c s).length ≤ s.length := by
  have h := rep_len (c := c) h1 _ s rfl
  have h2 : 0 < old.length := List.length_pos_iff.2 h1
  unfold repAll
  have h3 : Lib.count s old ≤ Lib.count s old * old.length := Nat.le_mul_of_pos_right _ h2
  omega

def lit (l : List UInt8) : Obj := .cells (l.map fun c => Value.int .u8 (byt c)).toArray 5
theorem lit_crlf : lit [13, 10] = .cells #[.int .u8 13, .int .u8 10] 5 := rfl
theorem lit_cr : lit [13] = .cells #[.int .u8 13] 5 := rfl
theorem lit_lf : lit [10] = .cells #[.int .u8 10] 5 := rfl
theorem lits2 (w : World) (old : List UInt8) (c : UInt8) :
    (∀ i x, old[i]? = some x → ((w.alloc (lit old)).alloc (lit [c])).cell? ⟨w.heap.size, 0 + i, none⟩ = some (.int .u8 (byt x))) ∧
    ((w.alloc (lit old)).alloc (lit [c])).cell? ⟨w.heap.size + 1, 0, none⟩ = some (.int .u8 (byt c)) ∧ Below w.heap.size w ((w.alloc (lit old)).alloc (lit [c])) := by
  refine ⟨fun i x hx => ?_, ?_, ((Below.refl _ _).alloc (Nat.le_refl _) _).alloc (by rw [World.size_alloc]; omega) _⟩
  · have h := bytes_lit w old 5 (0, 0) i x hx
    have hb := (Below.refl (w.alloc (lit old)).heap.size (w.alloc (lit old))).alloc (Nat.le_refl _) (lit [c])
    rw [hb.cell (block_lt_of_cell h)]
    exact h
  · have h := bytes_lit (w.alloc (lit old)) [c] 5 (0, 0) 0 c rfl
    rw [World.size_alloc] at h
    exact h

theorem lines_one (a : Option Addr) (n cap : Nat) (bs old : List UInt8) (d : Nat) (w : World) (hl : bs.length = n) (hd : old.length = d) (hd1 : d = 1 ∨ d = 2) (hn : n ≤ 1000000) (hcap : n ≤ cap) (hnil : a = none → n = 0 ∧ cap = 0) (hb : Bytes w a bs) (hT : Tab2 w) :
    Calls Tryd.prog 40 #[.slice a n cap, .slice (some ⟨w.heap.size, 0, none⟩) d d, .slice (some ⟨w.heap.size + 1, 0, none⟩) 1 1] ((w.alloc (lit old)).alloc (lit [10])) fun e w' => ∃ v, e = .returned v ∧ IsB w' v (repAll old 10 bs) ∧ Below w.heap.size w w' := by
  obtain ⟨h1, h2, h3⟩ := lits2 w old 10
  exact (replaceAll_any a n cap bs old w.heap.size 0 d d 10 (w.heap.size + 1) 0 1 _ hl hd hd1 hn hcap hnil (hb.below h3) h1 h2 (hT.below h3)).mono fun e w' ⟨v, e1, e2, e3⟩ => ⟨v, e1, e2, h3.trans (e3.mono h3.size)⟩

theorem lines_any (a : Option Addr) (n cap : Nat) (bs : List UInt8) (w : World) (hl : bs.length = n) (hn : n ≤ 1000000) (hcap : n ≤ cap) (hnil : a = none → n = 0 ∧ cap = 0) (hb : Bytes w a bs) (hT : Tab2 w) :
    Calls Tryd.prog 28 #[.slice a n cap] w fun e w' => ∃ v, e = .returned v ∧ IsB w' v (linesB bs) ∧ Below w.heap.size w w' := by
  have h1 : Calls Tryd.prog 40 #[.slice a n cap, .slice (some ⟨w.heap.size, 0, none⟩) 2 2, .slice (some ⟨w.heap.size + 1, 0, none⟩) 1 1] ((w.alloc (.cells #[.int .u8 13, .int .u8 10] 5)).alloc (.cells #[.int .u8 10] 5)) fun e w' => ∃ v, e = .returned v ∧ IsB w' v (repAll [13, 10] 10 bs) ∧ Below w.heap.size w w' := by
    rw [← lit_crlf, ← lit_lf]
    exact lines_one a n cap bs [13, 10] 2 w hl rfl (.inr rfl) hn hcap hnil hb hT
  have h2 : ∀ (v : Value) (w' : World), IsB w' v (repAll [13, 10] 10 bs) → Below w.heap.size w w' → ∃ a n cap, v = .slice a n cap ∧ Calls Tryd.prog 40 #[.slice a n cap, .slice (some ⟨w'.heap.size, 0, none⟩) 1 1, .slice (some ⟨w'.heap.size + 1, 0, none⟩) 1 1] ((w'.alloc (.cells #[.int .u8 13] 5)).alloc (.cells #[.int .u8 10] 5)) fun e w'' => ∃ v, e = .returned v ∧ IsB w'' v (linesB bs) ∧ Below w'.heap.size w' w'' := fun v w' ⟨a', n', cap', hv, hl', hc', hnil', hb'⟩ hbw => by
    have hle := repAll_le (old := [13, 10]) (c := 10) (s := bs) (by simp)
    refine ⟨a', n', cap', hv, ?_⟩
    rw [← lit_cr, ← lit_lf]
    exact (lines_one a' n' cap' (repAll [13, 10] 10 bs) [13] 1 w' hl' rfl (.inl rfl) (by omega) hc' hnil' hb' (hT.below hbw))
  have H1 := Lib.hid h1; have H2 := Lib.hid h2
  clear h1 h2 hb hT hnil hl
  go_enter Tryd.func28, Tryd.ntmps28
  have tok1 : True := trivial
  go_wp2_with (go_at_call 40; clear tok1; refine H1.out.mono ?_; rintro e w1 ⟨v, rfl, hv, hbw⟩)
  obtain ⟨a', n', cap', rfl, hC⟩ := H2.out _ _ hv hbw
  have HC := Lib.hid hC; have HBW := Lib.hid hbw
  clear hC hv H1 hbw
  go_wp2_with (go_at_call 40; refine HC.out.mono ?_; rintro e w2 ⟨v, rfl, hv, hb2⟩)
  go_ret
  exact ⟨v, rfl, hv, HBW.out.trans (hb2.mono HBW.out.size)⟩
end Go.Proofs.YthbjibgfhagonaaDoor
