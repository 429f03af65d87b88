/- A copy of bytes, and bytes with a sign behind: what the calls compute, for all bytes and signs. -/
import Derived.Test.YthbjibgfhagonaaDoorAll
import Derived.Test.YthbjibgfhagonaaDoorLay
namespace Go.Proofs.YthbjibgfhagonaaDoor
open Go.RowKit
set_option linter.unusedVariables false

theorem info5 : (Tryd.prog.info? 5).map (fun i => (i.zero, i.size, i.bytes)) = some (some (.int .u8 0), 1, 1) := by kernel_rfl

theorem clone_any (a : Option Addr) (n cap : Nat) (bs : List UInt8) (w : World) (hl : bs.length = n) (hn : n ≤ 1099511627776) (hnil : a = none → n = 0 ∧ cap = 0) (hb : Bytes w a bs) :
    Calls Tryd.prog 32 #[.slice a n cap] w fun e w' => ∃ v, e = .returned v ∧ OwnB w' w.heap.size 5 v bs ∧ Below w.heap.size w w' := by
  have q24 : ∀ (w : World) (a : Option Addr) (n c n' c' : Nat), (binOp .eql 24 (.slice a n c) (.slice none n' c')).run Tryd.prog w = .ok (.bool a.isNone) w := fun w a n c n' c' => Lib.run_eql_slice_nil w _ _ a n c n' c' Tryd.underlying24
  cases a with
  | none =>
    obtain ⟨rfl, rfl⟩ := hnil rfl
    have h0 : bs = [] := List.length_eq_zero_iff.1 hl
    subst h0
    clear hb hnil hl
    go_enter Tryd.func32, Tryd.ntmps32
    go_wp2
    go_ret
    exact ⟨_, rfl, OwnB.nil _ _ _, Below.refl _ _⟩
  | some x =>
    have HL := Lib.hid hl; have HB := Lib.hid hb
    clear hb hnil hl
    go_enter Tryd.func32, Tryd.ntmps32
    go_wp2_with (at_builtin; refine wpList_append_bytes rfl (.tmp 5) (.tmp 6) 24 5 rfl Tryd.underlying24 info5 w.heap.size _ [] bs (some x) n cap rfl (OwnB.empty w 5) rfl HL.out ?c1 ?c2 ?c3 ?c4 ?_)
    case c1 => exact HB.out.below ((Below.refl _ _).alloc (Nat.le_refl _) _)
    case c2 => intro h; simp at h
    case c3 => rw [HL.out]; simp; omega
    case c4 => rw [World.size_alloc]; omega
    rintro v w1 hO hg hb1
    obtain ⟨ao, c2, hv⟩ := hO.form'
    subst hv
    have HO := Lib.hid hO
    clear hO hg
    go_wp2_with fail
    go_ret
    refine ⟨_, rfl, ?_, ?_⟩
    · simpa using HO.out
    · exact ((Below.refl _ _).alloc (Nat.le_refl _) _).trans hb1

def encB (r : Int) : List UInt8 := Lib.encodeRune r
theorem runeCells_map (r : Int) : Lib.runeCells r = (encB r).map bval := by
  rw [← Lib.byteCells_encodeRune]; rfl
theorem encB_len (r : Int) : 1 ≤ (encB r).length ∧ (encB r).length ≤ 4 := by
  have := Lib.runeCells_le r
  rw [Lib.runeCells_length] at this
  exact this
theorem valid_any (r : Int) (w : World) : Calls Tryd.prog 33 #[.int .i32 r] w fun e w' => e = .returned (.bool (Lib.validRune r)) ∧ w' = w := Tryd.utf8_ValidRune r w
theorem appendRune_any (B : Nat) (v : Value) (us : List UInt8) (r : Int) (hr0 : -2147483648 ≤ r) (hr1 : r ≤ 2147483647) (w : World) (hown : OwnB w B 5 v us) (hlen : us.length ≤ 1099511627776) (hB : B ≤ w.heap.size) :
    Calls Tryd.prog 34 #[v, .int .i32 r] w fun e w' => ∃ v', e = .returned v' ∧ OwnB w' B 5 v' (us ++ encB r) ∧ Below B w w' := by
  refine (Tryd.utf8_AppendRune_plain B v us.length (us.map bval) r hr0 hr1 w hown (by omega) hB).mono ?_
  rintro e w' ⟨v', rfl, h, o, hg⟩
  refine ⟨v', rfl, ?_, ?_⟩
  · unfold OwnB
    have e1 : (us ++ encB r).length = us.length + (Lib.runeCells r).length := by rw [List.length_append, Lib.runeCells_length]; rfl
    rw [e1, List.map_append, ← runeCells_map]
    exact h
  · have h1 : Below B w (w.alloc o) := (Below.refl _ _).alloc hB _
    exact h1.trans (below_of_grown hg (by rw [World.size_alloc]; omega) (own_block hown))

def putB (bs : List UInt8) (r : Int) : List UInt8 := if Lib.validRune r then bs ++ encB r else bs
theorem put_any (a : Option Addr) (n cap : Nat) (bs : List UInt8) (r : Int) (w : World) (hl : bs.length = n) (hn : n ≤ 1099511627776) (hnil : a = none → n = 0 ∧ cap = 0) (hr0 : -2147483648 ≤ r) (hr1 : r ≤ 2147483647) (hb : Bytes w a bs) :
    Calls Tryd.prog 10 #[.slice a n cap, .int .i32 r] w fun e w' => ∃ v, e = .returned (.tuple #[v, .bool (Lib.validRune r)]) ∧ OwnB w' w.heap.size 5 v (putB bs r) ∧ Below w.heap.size w w' := by
  have hC := clone_any a n cap bs w hl hn hnil hb
  have HC := Lib.hid hC
  have HL := Lib.hid hl; have HB := Lib.hid hb
  have H0 := Lib.hid hr0; have H1 := Lib.hid hr1
  clear hC hl hb hnil hr0 hr1
  cases hv : Lib.validRune r with
  | false =>
    have e1 : Hid (putB bs r = bs) := by unfold putB Hid; rw [hv]; rfl
    have HV := Lib.hid hv
    clear hv
    go_enter Tryd.func10, Tryd.ntmps10
    go_wp2_with (go_at_call 32; refine HC.out.mono ?_; rintro e w1 ⟨v, rfl, hO, hb1⟩)
    have HO := Lib.hid hO
    clear hO
    go_wp2_with (go_at_call 33; refine (valid_any r _).mono ?_; rw [HV.out]; rintro e w2 ⟨rfl, rfl⟩)
    go_ret2
    exact ⟨v, rfl, by rw [e1.out]; exact HO.out, hb1⟩
  | true =>
    have e1 : Hid (putB bs r = bs ++ encB r) := by unfold putB Hid; rw [hv]; rfl
    have HV := Lib.hid hv
    clear hv
    go_enter Tryd.func10, Tryd.ntmps10
    go_wp2_with (go_at_call 32; refine HC.out.mono ?_; rintro e w1 ⟨v, rfl, hO, hb1⟩)
    have HO := Lib.hid hO
    clear hO
    go_wp2_with (first | (go_at_call 33; refine (valid_any r _).mono ?_; rw [HV.out]; rintro e w2 ⟨rfl, rfl⟩) | (go_at_call 34; refine (appendRune_any w.heap.size v bs r H0.out H1.out _ HO.out (by rw [HL.out]; exact hn) hb1.size).mono ?_; rintro e w3 ⟨v', rfl, hO', hb3⟩))
    go_ret2
    exact ⟨v', rfl, by rw [e1.out]; exact hO', hb1.trans hb3⟩
end Go.Proofs.YthbjibgfhagonaaDoor
