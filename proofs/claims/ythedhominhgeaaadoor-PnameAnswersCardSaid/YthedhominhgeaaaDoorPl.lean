/- Names without great letters, in plain words. -/
import Derived.Test.YthedhominhgeaaaDoorAlive
namespace Go.Proofs.YthedhominhgeaaaDoor
set_option linter.unusedVariables false

theorem all_bytes {p : UInt8 → Prop} [DecidablePred p] (h : ∀ n : Fin 256, p (UInt8.ofNat n)) (c : UInt8) : p c := by
  have := h ⟨c.toNat, c.toNat_lt⟩
  simpa using this
theorem fold1_twice (c : UInt8) : fold1 (fold1 c) = fold1 c := all_bytes (p := fun c => fold1 (fold1 c) = fold1 c) (by decide +kernel) c
theorem fold1_slash (c : UInt8) : fold1 c = 47 ↔ c = 47 := all_bytes (p := fun c => fold1 c = 47 ↔ c = 47) (by decide +kernel) c
theorem fold1_dot (c : UInt8) : fold1 c = 46 ↔ c = 46 := all_bytes (p := fun c => fold1 c = 46 ↔ c = 46) (by decide +kernel) c
theorem foldL_twice (l : List UInt8) : foldL (foldL l) = foldL l := by
  unfold foldL
  rw [List.map_map]
  apply List.map_congr_left
  intro c _
  exact fold1_twice c
theorem lastP_fold (l : List UInt8) (d : UInt8) (hd : ∀ c, fold1 c = d ↔ c = d) : lastP (foldL l) d = lastP l d := by
  induction l with
  | nil => rfl
  | cons b r ih =>
    have h1 : lastP (foldL (b :: r)) d = if lastP (foldL r) d = 0 then (if fold1 b = d then 1 else 0) else lastP (foldL r) d + 1 := rfl
    have h2 : lastP (b :: r) d = if lastP r d = 0 then (if b = d then 1 else 0) else lastP r d + 1 := rfl
    rw [h1, h2, ih]
    by_cases hb : b = d
    · rw [if_pos ((hd b).2 hb), if_pos hb]
    · rw [if_neg (fun h => hb ((hd b).1 h)), if_neg hb]
theorem foldL_drop (l : List UInt8) (k : Nat) : foldL (l.drop k) = (foldL l).drop k := by unfold foldL; rw [List.map_drop]
theorem foldL_base (l : List UInt8) : foldL (baseL l) = baseL (foldL l) := by
  unfold baseL; rw [lastP_fold l 47 fold1_slash, foldL_drop]
theorem ext_fold {a b : List UInt8} (h : foldL a = foldL b) : extL a = extL b := by
  have hb : foldL (baseL a) = foldL (baseL b) := by rw [foldL_base, foldL_base, h]
  have hp : lastP (baseL a) 46 = lastP (baseL b) 46 := by
    rw [← lastP_fold (baseL a) 46 fold1_dot, ← lastP_fold (baseL b) 46 fold1_dot, hb]
  unfold extL
  rw [hp, foldL_drop, foldL_drop, hb]
theorem clash_fold {a b : List UInt8} (c : List UInt8) (h : foldL a = foldL b) : clashB a c = clashB b c := by
  unfold clashB; rw [h]
theorem len_fold {a b : List UInt8} (h : foldL a = foldL b) : a.length = b.length := by
  rw [← foldL_len a, ← foldL_len b, h]
end Go.Proofs.YthedhominhgeaaaDoor
