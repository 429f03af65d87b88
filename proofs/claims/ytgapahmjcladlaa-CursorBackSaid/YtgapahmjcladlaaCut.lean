/- A copy of bytes, parts of bytes, and numbers as bytes: what the calls compute. -/
import Derived.Test.YtgapahmjcladlaaRefNum
import Derived.Test.YtgapahmjcladlaaLay
import Derived.Lib.SlBytesConst
namespace Go.Proofs.Ytgapahmjcladlaa
open Go.RowKit
set_option linter.unusedVariables false

theorem OwnB.form3 {w : World} {B e : Nat} {v : Value} {bs : List UInt8} (h : OwnB w B e v bs) : ∃ ao cap, v = .slice ao bs.length cap ∧ bs.length ≤ cap ∧ (ao = none → cap = 0) := by
  rcases h.2 with ⟨hv, h0⟩ | ⟨g, cap, cur, hv, hg, hh, hle, _⟩
  · exact ⟨none, 0, by rw [hv, h0], by omega, fun _ => rfl⟩
  · exact ⟨_, cap, hv, by simpa using hle, fun h => by cases h⟩
theorem clone_any (a : Option Addr) (n cap : Nat) (bs : List UInt8) (w : World) (hl : bs.length = n) (hn : n ≤ 1099511627776) (hnil : a = none → n = 0 ∧ cap = 0) (hb : Bytes w a bs) :
    Calls Try.prog 27 #[.slice a n cap] w fun e w' => ∃ v, e = .returned v ∧ OwnB w' w.heap.size 5 v bs ∧ Below w.heap.size w w' := by
  have q24 : ∀ (w : World) (a : Option Addr) (n c n' c' : Nat), (binOp .eql 22 (.slice a n c) (.slice none n' c')).run Try.prog w = .ok (.bool a.isNone) w := fun w a n c n' c' => Lib.run_eql_slice_nil w _ _ a n c n' c' Try.underlying22
  cases a with
  | none =>
    obtain ⟨rfl, rfl⟩ := hnil rfl
    have h0 : bs = [] := List.length_eq_zero_iff.1 hl
    subst h0
    clear hb hnil hl
    go_enter Try.func27, Try.ntmps27
    go_wp2
    go_ret
    exact ⟨_, rfl, OwnB.nil _ _ _, Below.refl _ _⟩
  | some x =>
    have HL := Lib.hid hl; have HB := Lib.hid hb
    clear hb hnil hl
    go_enter Try.func27, Try.ntmps27
    go_wp2_with (at_builtin; refine wpList_append_bytes rfl (.tmp 5) (.tmp 6) 22 5 rfl Try.underlying22 info5 w.heap.size _ [] bs (some x) n cap rfl (OwnB.empty w 5) rfl HL.out ?c1 ?c2 ?c3 ?c4 ?_)
    case c1 => exact HB.out.below ((Below.refl _ _).alloc (Nat.le_refl _) _)
    case c2 => intro h; simp at h
    case c3 => rw [HL.out]; simp; omega
    case c4 => rw [World.size_alloc]; omega
    rintro v w1 hO hg hb1
    obtain ⟨ao, c2, hv⟩ := hO.form'
    subst hv
    have HO := Lib.hid hO
    clear hO hg
    go_wp2_with fail
    go_ret
    refine ⟨_, rfl, ?_, ?_⟩
    · simpa using HO.out
    · exact ((Below.refl _ _).alloc (Nat.le_refl _) _).trans hb1
theorem clone_nil (w : World) : Calls Try.prog 27 #[.slice none 0 0] w fun e w' => e = .returned (.slice none 0 0) ∧ w' = w := by
  have q24 : ∀ (w : World) (a : Option Addr) (n c n' c' : Nat), (binOp .eql 22 (.slice a n c) (.slice none n' c')).run Try.prog w = .ok (.bool a.isNone) w := fun w a n c n' c' => Lib.run_eql_slice_nil w _ _ a n c n' c' Try.underlying22
  go_enter Try.func27, Try.ntmps27
  go_wp2
  go_ret
  exact ⟨rfl, rfl⟩

/-- A part of bytes that the call has made. -/
def Made (w : World) (B : Nat) (v : Value) (bs : List UInt8) (k : Nat) : Prop := bs.length = k ∧ OwnB w B 5 v bs
theorem cut_no (a : Option Addr) (n cap : Nat) (p k : Int) (hn : n ≤ 1099511627776) (h : ¬ fits n p k) (w : World) :
    Calls Try.prog 18 #[.slice a n cap, .int .i64 p, .int .i64 k] w fun e w' => e = .returned (.tuple #[.slice none 0 0, .bool false]) ∧ w' = w := by
  have HP := Lib.hid (part_no a n cap p k hn h w)
  clear h
  go_enter Try.func18, Try.ntmps18
  go_wp2_with fail
  refine HP.out.mono ?_
  rintro e w1 ⟨rfl, rfl⟩
  go_wp2_with fail
  refine (clone_nil w1).mono ?_
  rintro e w2 ⟨rfl, rfl⟩
  go_wp2_with fail
  go_ret2
  exact ⟨rfl, rfl⟩
theorem cut_yes (a : Option Addr) (n cap p k : Nat) (bs : List UInt8) (hl : bs.length = n) (hn : n ≤ 1099511627776) (hcap : n ≤ cap) (hnil : a = none → n = 0 ∧ cap = 0) (h : p + k ≤ n) (w : World) (hb : Bytes w a bs) :
    Calls Try.prog 18 #[.slice a n cap, .int .i64 p, .int .i64 k] w fun e w' => (∃ v, e = .returned (.tuple #[v, .bool true]) ∧ Made w' w.heap.size v ((bs.drop p).take k) k) ∧ Below w.heap.size w w' := by
  have HP := Lib.hid (part_yes a n cap p k bs hl hn hcap hnil h w hb)
  clear hl hb hnil
  generalize (bs.drop p).take k = L at HP ⊢
  go_enter Try.func18, Try.ntmps18
  go_wp2_with fail
  refine HP.out.mono ?_
  rintro e w1 ⟨⟨v, rfl, ad, c, rfl, hl2, hc, hn2, hb⟩, rfl⟩
  have HB := Lib.hid hb; have HN := Lib.hid hn2; have HL := Lib.hid hl2
  clear hb hn2 hl2
  go_wp2_with fail
  refine (clone_any ad k c L w1 HL.out (by omega) (fun h => ⟨by have := HN.out h; omega, HN.out h⟩) HB.out).mono ?_
  rintro e w2 ⟨v, rfl, hO, h2⟩
  obtain ⟨ao, oc, hv, _, _⟩ := OwnB.form3 hO
  rw [HL.out] at hv
  subst hv
  have HO := Lib.hid hO
  clear hO
  go_wp2_with fail
  go_ret2
  exact ⟨⟨_, rfl, HL.out, HO.out⟩, h2⟩
end Go.Proofs.Ytgapahmjcladlaa
