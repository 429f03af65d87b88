/- Fields that are the same: what the call computes. -/
import Derived.Test.YtgapahmjcladlaaRefQ
import Derived.Lib.QuietBelow
namespace Go.Proofs.Ytgapahmjcladlaa
open Go.RowKit Go.Sort
set_option linter.unusedVariables false

set_option maxHeartbeats 2000000 in
theorem sameF_any (L1 L2 : Nat) (fa fb : Option Addr) (m c1 c2 : Nat) (fs : List Fl) (hl : fs.length = m) (hm : m ≤ 1099511627776) (hbl : ∀ f ∈ fs, f.b.length ≤ 1099511627776) (w : World) (h1 : Fs L1 w fa fs) (h2 : Fs L2 w fb fs) :
    Calls Try.prog 10 #[.slice fa m c1, .slice fb m c2] w fun e w' => e = .returned (.bool true) ∧ Below w.heap.size w w' := by
  have HL := Lib.hid hl; have H1 := Lib.hid h1; have H2 := Lib.hid h2; have HBL := Lib.hid hbl
  clear hl h1 h2 hbl
  go_enter Try.func10, Try.ntmps10
  go_wp2_with fail
  go_loopw [5] (fun i wr => ∃ (k : Nat), k ≤ m ∧ i = .int .i64 k ∧ Hid (Below w.heap.size w wr)) (fun i _ => m - (intOf i).toNat)
  case atStart => exact ⟨0, by omega, rfl, Lib.hid (Below.refl _ _)⟩
  case round =>
    obtain ⟨k, hk, rfl, HB⟩ := hrel
    by_cases hlt : k < m
    · obtain ⟨f, hfk⟩ : ∃ f, fs[k]? = some f := ⟨fs[k]'(by have := HL.out; omega), List.getElem?_eq_getElem _⟩
      have HLF : f.b.length ≤ 1099511627776 := HBL.out f (List.mem_of_getElem? hfk)
      obtain ⟨g, rfl, p0, p1, v, p2, hv⟩ := (H1.out.below HB.out) k f hfk
      obtain ⟨g', rfl, q0, q1, v', q2, hv'⟩ := (H2.out.below HB.out) k f hfk
      obtain ⟨ad, vc, rfl, _, _, hy⟩ := hv.bytes
      obtain ⟨ad', vc', rfl, _, _, hy'⟩ := hv'.bytes
      have i2 : (k : Int) < (m : Int) := by omega
      have D1 : Hid (∀ d os, Calls Try.prog 11 #[.slice ad f.b.length vc, .slice ad' f.b.length vc'] (grow (redrawn wr d) os) fun e w'' => e = .returned (.bool true) ∧ ∃ p : Regrown, w'' = grow (redrawn wr p.d) p.os) :=
        Lib.hid (fun d os => Calls.regrown_of ((same_any ad ad' _ _ vc vc' f.b f.b _ rfl rfl HLF HLF (hy.below (below_regrown wr d os)) (hy'.below (below_regrown wr d os))).mono fun e w' h => ⟨by rw [h.1, decide_eq_true rfl], h.2⟩))
      have r0 := cell_regrown p0; have r1 := cell_regrown p1; have r2 := cell_regrown p2
      have s0 := cell_regrown q0; have s1 := cell_regrown q1; have s2 := cell_regrown q2
      obtain ⟨K, hK⟩ : ∃ K, K = f.b.length := ⟨_, rfl⟩
      rw [← hK] at D1 r2 s2
      clear hfk p0 p1 p2 q0 q1 q2 hv hv' hy hy' hK HLF
      go_wp2_with fail
      refine wp_region_quiet_below (by kernel_rfl) (by kernel_rfl) ?_
      repeat (go_big_quiet_step (first | exact D1.out _ _))
      refine wpQuiet_nil ?_
      intro _ hw'
      obtain ⟨⟨dq, osq⟩, hw''⟩ := hw'
      obtain ⟨w4, hw4⟩ : ∃ w4, w4 = grow (redrawn wr dq) osq := ⟨_, rfl⟩
      rw [← hw4] at hw''
      have hb4 : Below wr.heap.size wr w4 := by rw [hw4]; exact below_regrown wr dq osq
      subst hw''
      have HB4 := Lib.hid (below_step HB.out hb4)
      clear hw4 D1 r0 r1 r2 s0 s1 s2 hb4
      go_wp2_with fail
      go_roundw
      case rel => exact ⟨k + 1, by omega, by simp, HB4⟩
      case measure => simp [intOf]; omega
    · go_wp2_with fail
      go_ret
      exact ⟨rfl, HB.out⟩
end Go.Proofs.Ytgapahmjcladlaa
