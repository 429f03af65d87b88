/- Is a copy at the next place so much better: what the call answers. -/
import Derived.Test.YtegfacepnklbjaaBest
namespace Go.Proofs.Ytegfacepnklbjaa
open Go.RowKit Go.Maps
set_option linter.unusedVariables false

theorem field34 (w : World) (c l d : Int) : (Instr.field 34 (.agg #[.int .u8 c, .int .i64 l, .int .i64 d]) 1).run Try.prog w = .ok (.int .i64 l) w := by kernel_rfl
attribute [local go_sem] field34
set_option maxRecDepth 100000 in
set_option maxHeartbeats 2000000 in
theorem better_any (F M V b o n cap ch en : Nat) (lz : Bool) (bs : List UInt8) (nx p : Nat) (t : Tk) (hl : bs.length = n) (hn : n ≤ 32768) (hcap : n ≤ cap) (hpn : p + 1 ≤ n) (hnp : nx ≤ p) (hch : ch ≤ 4096) (hen : en ≤ 258) (htl : t.len ≤ 258) (w : World) (hf : Fin w F M V b o n cap bs ch en lz nx) :
    Calls Try.prog 17 #[.pointer (some ⟨F, 0, none⟩), tkV t, .int .i64 p] w fun e w' => ∃ v, e = .returned (.bool v) ∧ (v = true → ∃ t2, Best bs ch (p + 1) t2 ∧ t.len < t2.len) ∧ (∃ nx', nx' ≤ p + 1 ∧ Fin w' F M V b o n cap bs ch en lz nx') ∧ Tur w w' F M V := by
  have hFl : F < w.heap.size := (Array.getElem?_eq_some_iff.1 hf.blk).1
  have hVl : V < w.heap.size := by obtain ⟨cur, h1, _⟩ := hf.prev; exact (Array.getElem?_eq_some_iff.1 h1).1
  have hMl : M < w.heap.size := by obtain ⟨D, m, h1, _⟩ := hf.map; exact h1.lt
  have HL := Lib.hid hl
  have hb1 := (Below.refl w.heap.size w).alloc (Nat.le_refl _) (.cells #[.int .u8 (byt t.lit), .int .i64 t.len, .int .i64 t.dist] 34)
  have HF1 := Lib.hid (hf.keep hb1)
  have HT1 := Lib.hid (Tur.of_below F M V hb1)
  have h1 := HF1.out.c2
  have h2 := HF1.out.c3
  clear hf hl hb1
  unfold tkV
  cases lz with
  | false =>
    go_enter Try.func17, Try.ntmps17
    go_wp2_with fail
    go_quiet (fail)
    go_wp2_with fail
    go_ret
    exact ⟨false, rfl, (fun h => by cases h), ⟨nx, by omega, HF1.out.drewN _⟩, HT1.out.trans (Tur.of_below _ _ _ (Below.drewN (Below.refl _ _) _))⟩
  | true =>
    by_cases hte : t.len < en
    · have i1 : (t.len : Int) < (en : Int) := by omega
      have HF2 : Hid (Fin (w.alloc (.cells #[.int .u8 (byt t.lit), .int .i64 t.len, .int .i64 t.dist] 34)).drew F M V b o n cap bs ch en true nx) := HF1.out.drew
      have HTb : Hid (Tur w (w.alloc (.cells #[.int .u8 (byt t.lit), .int .i64 t.len, .int .i64 t.dist] 34)).drew F M V) := HT1.out.trans (Tur.of_below _ _ _ (Below.drew (Below.refl _ _)))
      have HBLK : Hid ((w.alloc (.cells #[.int .u8 (byt t.lit), .int .i64 t.len, .int .i64 t.dist] 34)).drew.heap[w.heap.size]? = some (.cells #[.int .u8 (byt t.lit), .int .i64 t.len, .int .i64 t.dist] 34 (0, 0))) := (MapKept.heap_alloc w _).1
      have h3 := HF2.out.c2
      have h4 := HF2.out.c3
      have HW : Hid (IntKind.i64.wrap ((p : Int) + 1) = ((p + 1 : Nat) : Int)) := by
        unfold Hid
        rw [IntKind.wrap_i64]; omega
      have HCALL := Lib.hid (best_any F M V b o n cap ch en true bs nx (p + 1) HL.out hn hcap hpn (by omega) hch hen _ HF2.out)
      have HKL : Hid (∀ W, Tur (w.alloc (.cells #[.int .u8 (byt t.lit), .int .i64 t.len, .int .i64 t.dist] 34)).drew W F M V → W.cell? ⟨w.heap.size, 1, none⟩ = some (.int .i64 ((t.len : Nat) : Int))) := fun W hT => by
        have hb := hT.block w.heap.size (by show w.heap.size < (w.alloc _).heap.size; rw [World.size_alloc]; omega) (by omega) (by omega) (by omega)
        rw [HBLK.out] at hb
        exact cell_of_blk hb 1 rfl
      go_enter Try.func17, Try.ntmps17
      go_wp2_with fail
      go_region_with (first | (go_at_call 16; rw [HW.out]; refine HCALL.out.mono ?_; rintro e W ⟨t2, he, hB, hF, hT⟩; unfold tkV at he; subst he; have k1 := HKL.out W hT))
      all_goals
        have HF := Lib.hid hF; have HT := Lib.hid hT; have HBB := Lib.hid hB
        clear hF hT hB
        go_wp2
        go_ret
        refine ⟨_, rfl, fun h => ⟨t2, HBB.out, ?_⟩, HF.out, HTb.out.trans HT.out⟩
        first | exact Int.ofNat_lt.1 (of_decide_eq_true h) | exact of_decide_eq_true h | (simp at h; omega)
    · have i1 : ¬ (t.len : Int) < (en : Int) := by omega
      go_enter Try.func17, Try.ntmps17
      go_wp2_with fail
      go_quiet (fail)
      go_wp2_with fail
      go_ret
      exact ⟨false, rfl, (fun h => by cases h), ⟨nx, by omega, HF1.out.drewN _⟩, HT1.out.trans (Tur.of_below _ _ _ (Below.drewN (Below.refl _ _) _))⟩
end Go.Proofs.Ytegfacepnklbjaa
