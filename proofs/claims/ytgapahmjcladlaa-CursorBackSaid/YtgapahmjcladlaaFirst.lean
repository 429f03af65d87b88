/- Where a sign lies first: what the call answers. -/
import Derived.Test.YtgapahmjcladlaaIdx
namespace Go.Proofs.Ytgapahmjcladlaa
open Go.RowKit
set_option linter.unusedVariables false

theorem own_cells {w : World} {B e g n c : Nat} {bs : List UInt8} (h : OwnB w B e (.slice (some ⟨g, 0, none⟩) n c) bs) : ∀ i x, bs[i]? = some x → w.cell? ⟨g, 0 + i, none⟩ = some (.int .u8 (byt x)) := fun i x hx => by
  rcases h.2 with ⟨hv, h0⟩ | ⟨g', cap, cur, hv, _⟩
  · have : bs = [] := List.length_eq_zero_iff.1 h0
    rw [this] at hx; simp at hx
  · have hn : bs.length = n := by simp only [Value.slice.injEq] at hv; omega
    rw [Nat.zero_add]; exact h.cell hn hx
theorem below_drewn {w W : World} (h : Below w.heap.size w.drew W) : Below w.heap.size w W := ⟨h.os, h.tape, h.output, h.size, h.block⟩

set_option maxHeartbeats 2000000 in
theorem first_at (a : Option Addr) (n cap f v : Nat) (fr : Int) (hfr : fr < 0 ∧ f = 0 ∨ fr = f) (bs : List UInt8) (hl : bs.length = n) (hn : n ≤ 100000) (hcap : n ≤ cap) (hnil : a = none → n = 0 ∧ cap = 0) (hv : v < 4294967296) (hf : f ≤ n) (w : World) (hb : Bytes w a bs) (hT : Tab w) :
    Calls Try.prog 13 #[.slice a n cap, .int .i64 fr, .int .u32 v] w fun e w' => (∃ r, e = .returned (.int .i64 r) ∧ FirstIs bs f (leB v 4) r) ∧ Below w.heap.size w w' := by
  have HL := Lib.hid hl
  have HT : Hid (Tab w.drew) := hT
  have hmx : max fr 0 = (f : Int) := by rcases hfr with ⟨h1, _⟩ | h <;> omega
  have HW : Hid (IntKind.i64.wrap (v : Int) = (v : Int)) := by unfold Hid; rw [IntKind.wrap_i64]; omega
  obtain ⟨D, hD⟩ : ∃ D, D = bs.drop f := ⟨_, rfl⟩
  have HD := Lib.hid hD
  have HR : Hid (FirstIs bs f (leB v 4) (if Lib.index D (leB v 4) < 0 then -1 else (f : Int) + Lib.index D (leB v 4))) := by
    unfold Hid; rw [hD]; exact first_drop (by omega) (index_is (bs.drop f) (leB v 4) (leB_len _ _))
  have HLD : Hid (D.length = n - f) := by unfold Hid; rw [hD, List.length_drop, hl]
  clear hD hfr
  cases a with
  | none =>
    obtain ⟨e1, e2⟩ := hnil rfl
    subst e1; subst e2
    have hf0 : f = 0 := by omega
    have HBD : Hid (Bytes w.drew none D) := .inl (by rw [HD.out, List.length_eq_zero_iff.1 hl]; simp)
    clear hl hb hT hnil
    subst hf0
    have HIX : Hid (∀ W, Below w.drew.heap.size w.drew W → OwnB W w.heap.size 5 (.slice (some ⟨w.heap.size, 0, none⟩) 4 4) (leB v 4) → Calls Try.prog 23 #[.slice none (0) (0), .slice (some ⟨w.heap.size, 0, none⟩) 4 4] W fun e w' => e = .returned (.int .i64 (Lib.index D (leB v 4))) ∧ Below W.heap.size W w') :=
      fun W hbW hO => index_any none (0) (0) D (leB v 4) w.heap.size 0 4 W HLD.out (leB_len _ _) (by omega) (by omega) (fun _ => ⟨rfl, rfl⟩) (HBD.out.below hbW) (own_cells hO) (HT.out.below hbW)
    clear HLD HBD HT HD
    go_enter Try.func13, Try.ntmps13
    go_wp2_with fail
    go_region_with (first
      | (go_at_call 22; rw [HW.out]; refine (little_four v hv _).mono ?_; rintro e W ⟨rfl, hO, hbW⟩)
      | (go_at_call 23; refine (HIX.out W hbW hO).mono ?_; rintro e W2 ⟨rfl, hbW2⟩))
    all_goals
      have HBB := Lib.hid ((show Below w.heap.size w W from below_drewn hbW).trans (hbW2.mono (below_drewn hbW).size))
      clear hO hbW hbW2 HIX
      generalize Lib.index D (leB v 4) = r at HR ⊢
      by_cases hr : r < 0
      · have HR2 : Hid (FirstIs bs 0 (leB v 4) (-1)) := by have := HR.out; rw [if_pos hr] at this; exact this
        clear HR
        go_wp2
        go_ret
        exact ⟨⟨_, rfl, HR2.out⟩, HBB.out⟩
      · have HR2 : Hid (FirstIs bs 0 (leB v 4) (0 + r)) := by have := HR.out; rw [if_neg hr] at this; exact this
        have hrb : r ≤ 100000 - 0 := by
          rcases HR2.out with ⟨h, _⟩ | ⟨k, h, _, h2, _⟩
          · omega
          · have := h2.1; rw [HL.out] at this; omega
        clear HR
        go_wp2
        go_ret
        exact ⟨⟨_, rfl, by simpa using HR2.out⟩, HBB.out⟩
  | some ad =>
    rcases hb with hnb | ⟨b, o, had, hc⟩
    · have hn0 : n = 0 := by rw [hnb] at hl; simpa using hl.symm
      have hf0 : f = 0 := by omega
      have HBD : Hid (Bytes w.drew (some ad) D) := .inl (by rw [HD.out, hnb]; simp)
      obtain ⟨b, o, sp⟩ := ad
      clear hl hT hnil hnb
      subst hn0; subst hf0
      by_cases hcp : cap = 0
      · subst hcp
        have HIX : Hid (∀ W, Below w.drew.heap.size w.drew W → OwnB W w.heap.size 5 (.slice (some ⟨w.heap.size, 0, none⟩) 4 4) (leB v 4) → Calls Try.prog 23 #[.slice (some ⟨b, o, sp⟩) (0) (0), .slice (some ⟨w.heap.size, 0, none⟩) 4 4] W fun e w' => e = .returned (.int .i64 (Lib.index D (leB v 4))) ∧ Below W.heap.size W w') :=
          fun W hbW hO => index_any (some ⟨b, o, sp⟩) (0) (0) D (leB v 4) w.heap.size 0 4 W HLD.out (leB_len _ _) (by omega) (by omega) (fun h => by cases h) (HBD.out.below hbW) (own_cells hO) (HT.out.below hbW)
        clear HLD HBD HT HD
        go_enter Try.func13, Try.ntmps13
        go_wp2_with fail
        go_region_with (first
          | (go_at_call 22; rw [HW.out]; refine (little_four v hv _).mono ?_; rintro e W ⟨rfl, hO, hbW⟩)
          | (go_at_call 23; refine (HIX.out W hbW hO).mono ?_; rintro e W2 ⟨rfl, hbW2⟩))
        all_goals
          have HBB := Lib.hid ((show Below w.heap.size w W from below_drewn hbW).trans (hbW2.mono (below_drewn hbW).size))
          clear hO hbW hbW2 HIX
          generalize Lib.index D (leB v 4) = r at HR ⊢
          by_cases hr : r < 0
          · have HR2 : Hid (FirstIs bs 0 (leB v 4) (-1)) := by have := HR.out; rw [if_pos hr] at this; exact this
            clear HR
            go_wp2
            go_ret
            exact ⟨⟨_, rfl, HR2.out⟩, HBB.out⟩
          · have HR2 : Hid (FirstIs bs 0 (leB v 4) (0 + r)) := by have := HR.out; rw [if_neg hr] at this; exact this
            have hrb : r ≤ 100000 - 0 := by
              rcases HR2.out with ⟨h, _⟩ | ⟨k, h, _, h2, _⟩
              · omega
              · have := h2.1; rw [HL.out] at this; omega
            clear HR
            go_wp2
            go_ret
            exact ⟨⟨_, rfl, by simpa using HR2.out⟩, HBB.out⟩
      · have hcp2 : ¬ cap - 0 = 0 := by omega
        have HIX : Hid (∀ W, Below w.drew.heap.size w.drew W → OwnB W w.heap.size 5 (.slice (some ⟨w.heap.size, 0, none⟩) 4 4) (leB v 4) → Calls Try.prog 23 #[.slice (some ⟨b, o, sp⟩) (0) (cap), .slice (some ⟨w.heap.size, 0, none⟩) 4 4] W fun e w' => e = .returned (.int .i64 (Lib.index D (leB v 4))) ∧ Below W.heap.size W w') :=
          fun W hbW hO => index_any (some ⟨b, o, sp⟩) (0) (cap) D (leB v 4) w.heap.size 0 4 W HLD.out (leB_len _ _) (by omega) (by omega) (fun h => by cases h) (HBD.out.below hbW) (own_cells hO) (HT.out.below hbW)
        clear HLD HBD HT HD
        go_enter Try.func13, Try.ntmps13
        go_wp2_with fail
        go_region_with (first
          | (go_at_call 22; rw [HW.out]; refine (little_four v hv _).mono ?_; rintro e W ⟨rfl, hO, hbW⟩)
          | (go_at_call 23; refine (HIX.out W hbW hO).mono ?_; rintro e W2 ⟨rfl, hbW2⟩))
        all_goals
          have HBB := Lib.hid ((show Below w.heap.size w W from below_drewn hbW).trans (hbW2.mono (below_drewn hbW).size))
          clear hO hbW hbW2 HIX
          generalize Lib.index D (leB v 4) = r at HR ⊢
          by_cases hr : r < 0
          · have HR2 : Hid (FirstIs bs 0 (leB v 4) (-1)) := by have := HR.out; rw [if_pos hr] at this; exact this
            clear HR
            go_wp2
            go_ret
            exact ⟨⟨_, rfl, HR2.out⟩, HBB.out⟩
          · have HR2 : Hid (FirstIs bs 0 (leB v 4) (0 + r)) := by have := HR.out; rw [if_neg hr] at this; exact this
            have hrb : r ≤ 100000 - 0 := by
              rcases HR2.out with ⟨h, _⟩ | ⟨k, h, _, h2, _⟩
              · omega
              · have := h2.1; rw [HL.out] at this; omega
            clear HR
            go_wp2
            go_ret
            exact ⟨⟨_, rfl, by simpa using HR2.out⟩, HBB.out⟩
    · cases had
      by_cases hcp : cap = f
      · have hfn : f = n := by omega
        have HBD : Hid (Bytes w.drew (some ⟨b, o, none⟩) D) := .inl (by rw [HD.out, hfn, ← hl]; simp)
        clear hl hT hnil hc
        subst hcp; subst hfn
        rw [Nat.sub_self] at HLD
        have HIX : Hid (∀ W, Below w.drew.heap.size w.drew W → OwnB W w.heap.size 5 (.slice (some ⟨w.heap.size, 0, none⟩) 4 4) (leB v 4) → Calls Try.prog 23 #[.slice (some ⟨b, o, none⟩) (0) (0), .slice (some ⟨w.heap.size, 0, none⟩) 4 4] W fun e w' => e = .returned (.int .i64 (Lib.index D (leB v 4))) ∧ Below W.heap.size W w') :=
          fun W hbW hO => index_any (some ⟨b, o, none⟩) (0) (0) D (leB v 4) w.heap.size 0 4 W HLD.out (leB_len _ _) (by omega) (by omega) (fun h => by cases h) (HBD.out.below hbW) (own_cells hO) (HT.out.below hbW)
        clear HLD HBD HT HD
        go_enter Try.func13, Try.ntmps13
        go_wp2_with fail
        go_region_with (first
          | (go_at_call 22; rw [HW.out]; refine (little_four v hv _).mono ?_; rintro e W ⟨rfl, hO, hbW⟩)
          | (go_at_call 23; refine (HIX.out W hbW hO).mono ?_; rintro e W2 ⟨rfl, hbW2⟩))
        all_goals
          have HBB := Lib.hid ((show Below w.heap.size w W from below_drewn hbW).trans (hbW2.mono (below_drewn hbW).size))
          clear hO hbW hbW2 HIX
          generalize Lib.index D (leB v 4) = r at HR ⊢
          by_cases hr : r < 0
          · have HR2 : Hid (FirstIs bs cap (leB v 4) (-1)) := by have := HR.out; rw [if_pos hr] at this; exact this
            clear HR
            go_wp2
            go_ret
            exact ⟨⟨_, rfl, HR2.out⟩, HBB.out⟩
          · have HR2 : Hid (FirstIs bs cap (leB v 4) ((cap : Int) + r)) := by have := HR.out; rw [if_neg hr] at this; exact this
            have hrb : r ≤ 100000 - (cap : Int) := by
              rcases HR2.out with ⟨h, _⟩ | ⟨k, h, _, h2, _⟩
              · omega
              · have := h2.1; rw [HL.out] at this; omega
            clear HR
            go_wp2
            go_ret
            exact ⟨⟨_, rfl, by simpa using HR2.out⟩, HBB.out⟩
      · have hcp2 : ¬ cap - f = 0 := by omega
        have HBD : Hid (Bytes w.drew (some ⟨b, o + f, none⟩) D) := by unfold Hid; rw [HD.out]; exact Bytes.drop (w := w.drew) hc f
        clear hl hT hnil hc
        have HIX : Hid (∀ W, Below w.drew.heap.size w.drew W → OwnB W w.heap.size 5 (.slice (some ⟨w.heap.size, 0, none⟩) 4 4) (leB v 4) → Calls Try.prog 23 #[.slice (some ⟨b, o + f, none⟩) (n - f) (cap - f), .slice (some ⟨w.heap.size, 0, none⟩) 4 4] W fun e w' => e = .returned (.int .i64 (Lib.index D (leB v 4))) ∧ Below W.heap.size W w') :=
          fun W hbW hO => index_any (some ⟨b, o + f, none⟩) (n - f) (cap - f) D (leB v 4) w.heap.size 0 4 W HLD.out (leB_len _ _) (by omega) (by omega) (fun h => by cases h) (HBD.out.below hbW) (own_cells hO) (HT.out.below hbW)
        clear HLD HBD HT HD
        go_enter Try.func13, Try.ntmps13
        go_wp2_with fail
        go_region_with (first
          | (go_at_call 22; rw [HW.out]; refine (little_four v hv _).mono ?_; rintro e W ⟨rfl, hO, hbW⟩)
          | (go_at_call 23; refine (HIX.out W hbW hO).mono ?_; rintro e W2 ⟨rfl, hbW2⟩))
        all_goals
          have HBB := Lib.hid ((show Below w.heap.size w W from below_drewn hbW).trans (hbW2.mono (below_drewn hbW).size))
          clear hO hbW hbW2 HIX
          generalize Lib.index D (leB v 4) = r at HR ⊢
          by_cases hr : r < 0
          · have HR2 : Hid (FirstIs bs f (leB v 4) (-1)) := by have := HR.out; rw [if_pos hr] at this; exact this
            clear HR
            go_wp2
            go_ret
            exact ⟨⟨_, rfl, HR2.out⟩, HBB.out⟩
          · have HR2 : Hid (FirstIs bs f (leB v 4) ((f : Int) + r)) := by have := HR.out; rw [if_neg hr] at this; exact this
            have hrb : r ≤ 100000 - (f : Int) := by
              rcases HR2.out with ⟨h, _⟩ | ⟨k, h, _, h2, _⟩
              · omega
              · have := h2.1; rw [HL.out] at this; omega
            clear HR
            go_wp2
            go_ret
            exact ⟨⟨_, rfl, by simpa using HR2.out⟩, HBB.out⟩
end Go.Proofs.Ytgapahmjcladlaa
