/- The reference's bytes of a sign: what the call computes, for every sign. -/
import Derived.Test.YthbjibgfhagonaaDoorRefA
import Derived.Test.YthbjibgfhagonaaDoorAlive
import Derived.Test.YthbjibgfhagonaaDoorEnc
namespace Go.Proofs.YthbjibgfhagonaaDoor
open Go.RowKit
set_option linter.unusedVariables false

theorem refBytes_any (v : Int) (w : World) (hv : Lib.validRune v = true) : Calls Tryd.prog 18 #[.int .i64 v] w fun e w' => ∃ x, e = .returned x ∧ IsB w' x (encB v) ∧ Below w.heap.size w w' := by
  cases form_of hv with
  | one h e =>
    obtain ⟨h0, h1⟩ := h
    obtain ⟨a, e, ea⟩ := e
    rw [e]
    have HE : ∀ w' : World, Obj.cells #[.int .u8 (v)] 5 = lit [a] := fun _ => by
      show _ = Obj.cells #[.int .u8 (byt a)] 5
      rw [ea]
    have HE := Lib.hid HE
    clear e ea hv
    go_enter Tryd.func18, Tryd.ntmps18
    go_wp2
    go_ret
    exact ⟨_, rfl, isB_lit w [a] _ 1 (HE.out w) rfl, (Below.refl _ _).alloc (Nat.le_refl _) _⟩
  | two h e =>
    obtain ⟨h0, h1⟩ := h
    obtain ⟨a, b, e, ea, eb⟩ := e
    rw [e]
    have HE : ∀ w' : World, Obj.cells #[.int .u8 (192 + v / 64), .int .u8 (128 + v % 64)] 5 = lit [a, b] := fun _ => by
      show _ = Obj.cells #[.int .u8 (byt a), .int .u8 (byt b)] 5
      rw [ea, eb]
    have HE := Lib.hid HE
    clear e ea eb hv
    go_enter Tryd.func18, Tryd.ntmps18
    go_wp2
    go_ret
    exact ⟨_, rfl, isB_lit w [a, b] _ 2 (HE.out w) rfl, (Below.refl _ _).alloc (Nat.le_refl _) _⟩
  | three h e =>
    have h0 : 2048 ≤ v := by omega
    have h1 : v ≤ 65535 := by omega
    clear h
    obtain ⟨a, b, c, e, ea, eb, ec⟩ := e
    rw [e]
    have HE : ∀ w' : World, Obj.cells #[.int .u8 (224 + v / 4096), .int .u8 (128 + v / 64 % 64), .int .u8 (128 + v % 64)] 5 = lit [a, b, c] := fun _ => by
      show _ = Obj.cells #[.int .u8 (byt a), .int .u8 (byt b), .int .u8 (byt c)] 5
      rw [ea, eb, ec]
    have HE := Lib.hid HE
    clear e ea eb ec hv
    go_enter Tryd.func18, Tryd.ntmps18
    go_wp2
    go_ret
    exact ⟨_, rfl, isB_lit w [a, b, c] _ 3 (HE.out w) rfl, (Below.refl _ _).alloc (Nat.le_refl _) _⟩
  | four h e =>
    obtain ⟨h0, h1⟩ := h
    obtain ⟨a, b, c, d, e, ea, eb, ec, ed⟩ := e
    rw [e]
    have HE : ∀ w' : World, Obj.cells #[.int .u8 (240 + v / 262144), .int .u8 (128 + v / 4096 % 64), .int .u8 (128 + v / 64 % 64), .int .u8 (128 + v % 64)] 5 = lit [a, b, c, d] := fun _ => by
      show _ = Obj.cells #[.int .u8 (byt a), .int .u8 (byt b), .int .u8 (byt c), .int .u8 (byt d)] 5
      rw [ea, eb, ec, ed]
    have HE := Lib.hid HE
    clear e ea eb ec ed hv
    go_enter Tryd.func18, Tryd.ntmps18
    go_wp2
    go_ret
    exact ⟨_, rfl, isB_lit w [a, b, c, d] _ 4 (HE.out w) rfl, (Below.refl _ _).alloc (Nat.le_refl _) _⟩
end Go.Proofs.YthbjibgfhagonaaDoor
