/- How many bytes the next field of bytes has; and so many bytes taken: what the calls compute. -/
import Derived.Test.YtgapahmjcladlaaFlds
import Derived.BigQuiet
namespace Go.Proofs.Ytgapahmjcladlaa
open Go.RowKit
set_option linter.unusedVariables false

theorem length_short {R : Nat} {a : Option Addr} {n cap : Nat} {p : Int} {ao : Option Addr} {c many : Nat} {fs : List Fl} (w : World) (hR : Rd w R a n cap p (.slice ao fs.length c) many) (hf : fs.length ≤ 1099511627776) (hm : many ≤ 1099511627776) (h : fs.length < many) :
    Calls Try.prog 28 #[.pointer (some ⟨R, 0, none⟩)] w fun e w' => e = .returned (.tuple #[.int .i64 0, .bool false]) ∧ ∃ q, w' = w.drewN q := by
  have c0 := hR.c0; have c1 := hR.c1; have c2 := hR.c2; have c3 := hR.c3
  clear hR
  generalize fs.length = m at *
  have h1 : (m : Int) - (many : Int) < 0 := by omega
  go_enter Try.func28, Try.ntmps28
  go_wp2_with fail
  go_quiet (fail)
  go_wp2_with fail
  go_ret2
  exact ⟨rfl, _, rfl⟩
theorem length_at {R : Nat} {a : Option Addr} {n cap : Nat} {p : Int} {g c many k : Nat} {fs : List Fl} (w : World) (hR : Rd w R a n cap p (.slice (some ⟨g, 0, none⟩) fs.length c) many) (hf : fs.length ≤ 1099511627776) (hm : 1 ≤ many) (h : fs.length = many + k) (f : Fl)
    (d0 : w.cell? ⟨g, k * 3, none⟩ = some (.int .i64 f.kind)) (d1 : w.cell? ⟨g, k * 3 + 1, none⟩ = some (.int .i64 f.n)) :
    Calls Try.prog 28 #[.pointer (some ⟨R, 0, none⟩)] w fun e w' => e = .returned (if f.kind ≤ 1 then .tuple #[.int .i64 f.n, .bool true] else .tuple #[.int .i64 0, .bool false]) ∧ ∃ q, w' = w.drewN q := by
  have c0 := hR.c0; have c1 := hR.c1; have c2 := hR.c2; have c3 := hR.c3
  clear hR
  generalize fs.length = m at *
  have h1 : (m : Int) - (many : Int) = (k : Int) := by omega
  by_cases hk : f.kind ≤ 1
  · rw [if_pos hk]
    have hk2 : ¬ (1 < f.kind) := by omega
    go_enter Try.func28, Try.ntmps28
    go_wp2_with fail
    go_quiet (fail)
    go_wp2_with fail
    go_ret2
    exact ⟨rfl, _, rfl⟩
  · rw [if_neg hk]
    have hk2 : 1 < f.kind := by omega
    go_enter Try.func28, Try.ntmps28
    go_wp2_with fail
    go_quiet (fail)
    go_wp2_with fail
    go_ret2
    exact ⟨rfl, _, rfl⟩
theorem OwnB.keep {w w' : World} {B e R : Nat} {v : Value} {bs : List UInt8} {cs : Array Value} {e2 : Nat} (h : OwnB w B e v bs) (hg : w.grownBy w' (some R)) (hb : w.heap[R]? = some (.cells cs e2 (0, 0))) (he : e2 ≠ e) : OwnB w' B e v bs := by
  refine ⟨h.1, ?_⟩
  rcases h.2 with h0 | ⟨g, cap, cur, hv, hgB, hh, r⟩
  · exact .inl h0
  · refine .inr ⟨g, cap, cur, hv, hgB, ?_, r⟩
    rw [hg.block g (Array.getElem?_eq_some_iff.1 hh).1 (fun e => ?_)]
    · exact hh
    · have e3 : g = R := by simpa using e
      rw [e3, hb] at hh
      simp at hh
      exact he hh.2
theorem take_no {R : Nat} {a : Option Addr} {n cap : Nat} {p : Int} {lv : Value} {many : Nat} (k : Int) (w : World) (hR : Rd w R a n cap p lv many) (hn : n ≤ 1099511627776) (h : ¬ fits n p k) :
    Calls Try.prog 29 #[.pointer (some ⟨R, 0, none⟩), .int .i64 k] w fun e w' => e = .returned (.tuple #[.slice none 0 0, .bool false]) ∧ ∃ q, w' = w.drewN q := by
  have c0 := hR.c0; have c1 := hR.c1; have c2 := hR.c2; have c3 := hR.c3
  clear hR
  have HC : Hid (∀ w : World, Calls Try.prog 18 #[.slice a n cap, .int .i64 p, .int .i64 k] w fun e w' => e = .returned (.tuple #[.slice none 0 0, .bool false]) ∧ w' = w) := fun w => cut_no a n cap p k hn h w
  clear h
  go_enter Try.func29, Try.ntmps29
  go_wp2_with fail
  go_region_with (first | (go_at_call 18; refine (HC.out _).mono ?_; rintro e w1 ⟨rfl, rfl⟩))
  all_goals
    go_wp2_with fail
    go_ret2
    exact ⟨rfl, 1, rfl⟩
theorem take_yes {R : Nat} {a : Option Addr} {n cap : Nat} {p : Nat} {lv : Value} {many : Nat} (k : Nat) (bs : List UInt8) (w : World) (hR : Rd w R a n cap p lv many) (hl : bs.length = n) (hn : n ≤ 1099511627776) (hcap : n ≤ cap) (hnil : a = none → n = 0 ∧ cap = 0) (h : p + k ≤ n) (hb : Bytes w a bs) :
    Calls Try.prog 29 #[.pointer (some ⟨R, 0, none⟩), .int .i64 k] w fun e w' => ∃ v, e = .returned (.tuple #[v, .bool true]) ∧ Made w' w.heap.size v ((bs.drop p).take k) k ∧ Rd w' R a n cap ((p + k : Nat) : Int) lv many ∧ w.grownBy w' (some R) := by
  have c0 := hR.c0; have c1 := hR.c1; have c2 := hR.c2; have c3 := hR.c3
  have HR := Lib.hid hR
  have HC : Hid (Calls Try.prog 18 #[.slice a n cap, .int .i64 p, .int .i64 k] w.drew fun e w' => (∃ v, e = .returned (.tuple #[v, .bool true]) ∧ Made w' w.heap.size v ((bs.drop p).take k) k) ∧ Below w.heap.size w.drew w') := cut_yes a n cap p k bs hl hn hcap hnil h w.drew hb
  clear hl hb hnil hR
  generalize (bs.drop p).take k = L at HC ⊢
  go_enter Try.func29, Try.ntmps29
  go_wp2_with fail
  go_region_with (first | (go_at_call 18; refine HC.out.mono ?_; rintro e w1 ⟨⟨v, rfl, hM⟩, hB⟩))
  all_goals
    have HM := Lib.hid hM
    have HB : Hid (Below w.heap.size w w1) := Lib.hid ⟨hB.os, hB.tape, hB.output, hB.size, hB.block⟩
    obtain ⟨ao, oc, hv, _, _⟩ := OwnB.form3 hM.2
    subst hv
    have HR1 : Hid (Rd w1 R a n cap p lv many) := Lib.hid (HR.out.below HB.out)
    have c1' := HR1.out.c1
    have hfz : w1.frozen? ⟨R, 1, none⟩ = false := frozen_blk HR1.out.blk 1
    clear hM hB
    go_wp2_with fail
    go_ret2
    have hm := HR1.out.move ((p : Int) + (k : Int))
    rw [← Int.natCast_add] at hm ⊢
    exact ⟨_, rfl, ⟨HM.out.1, OwnB.keep HM.out.2 hm.2 HR1.out.blk (by decide)⟩, hm.1, grown_trans (grown_below HB.out) hm.2⟩
end Go.Proofs.Ytgapahmjcladlaa
