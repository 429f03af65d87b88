/- The document's reading of fields: how many fields of bytes there are; words. -/
import Derived.Test.YtgapahmjcladlaaWrit
import Derived.Deep.DeepCutAuto
namespace Go.Proofs.Ytgapahmjcladlaa
open Go.RowKit
set_option linter.unusedVariables false

theorem refAll_any (ka : Option Addr) (m mc : Nat) (ks : List Int) (hkl : ks.length = m) (hm : m ≤ 1099511627776) (w : World) (hk : Ints w ka ks) :
    Calls Try.prog 21 #[.slice ka m mc] w fun e w' => e = .returned (.int .i64 (cnt ks : Nat)) ∧ w' = w := by
  have HK := Lib.hid hk; have HKL := Lib.hid hkl
  clear hk hkl
  go_enter Try.func21, Try.ntmps21
  go_wp2_with fail
  go_loopw [3, 4] (fun c i wr => ∃ (k : Nat), k ≤ m ∧ c = .int .i64 (cnt (ks.take k) : Nat) ∧ i = .int .i64 k ∧ wr = w) (fun _ i _ => m - (intOf i).toNat)
  case atStart => exact ⟨0, by omega, rfl, rfl, rfl⟩
  case round =>
    obtain ⟨k, hk, rfl, rfl, rfl⟩ := hrel
    by_cases hlt : k < m
    · obtain ⟨kb, ko, x, rfl, hx, hc⟩ := HK.out.at (i := k) (by rw [HKL.out]; exact hlt)
      have i2 : (k : Int) < (m : Int) := by omega
      have HCT := Lib.hid (cnt_take hx)
      have hcl : cnt (ks.take k) ≤ 1099511627776 := by
        have := cnt_le (ks.take k); rw [List.length_take] at this; omega
      by_cases h2 : x = 2
      · subst h2
        have HE : Hid (cnt (ks.take (k + 1)) = cnt (ks.take k) + 1) := by rw [HCT.out, if_pos rfl]; exact Lib.hid rfl
        clear hx HCT
        generalize cnt (ks.take k) = M at *
        go_wp2_with fail
        go_roundw
        case rel => exact ⟨k + 1, by omega, by rw [HE.out]; simp, by simp, trivial⟩
        case measure => simp [intOf]; omega
      · have HE : Hid (cnt (ks.take (k + 1)) = cnt (ks.take k)) := by rw [HCT.out, if_neg h2]; exact Lib.hid rfl
        clear hx HCT
        generalize cnt (ks.take k) = M at *
        go_wp2_with fail
        go_roundw
        case rel => exact ⟨k + 1, by omega, by rw [HE.out], by simp, trivial⟩
        case measure => simp [intOf]; omega
    · have hkm : k = m := by omega
      have hkt : ks.take k = ks := by rw [hkm, ← HKL.out, List.take_length]
      rw [hkt]
      clear hkt hkm
      go_wp2_with fail
      go_ret
      exact ⟨rfl, rfl⟩

theorem info56 : (Try.prog.info? 56).map (fun i => (i.zero, i.size, i.bytes)) = some (some (.agg #[.int .i64 0, .int .i64 0, .slice none 0 0]), 3, 40) := by kernel_rfl
end Go.Proofs.Ytgapahmjcladlaa
