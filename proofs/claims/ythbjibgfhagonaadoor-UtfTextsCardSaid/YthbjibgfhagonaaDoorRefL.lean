/- The reference's Lines: what the call computes, for all bytes. -/
import Derived.Test.YthbjibgfhagonaaDoorLawL
namespace Go.Proofs.YthbjibgfhagonaaDoor
open Go.RowKit
set_option linter.unusedVariables false

def lr : UInt8 → List UInt8 → List UInt8
  | _, [] => []
  | p, b :: t => (if b = 10 ∧ p = 13 then [] else if b = 13 then [10] else [b]) ++ lr b t
theorem lr_cons (p b : UInt8) (t : List UInt8) : lr p (b :: t) = (if b = 10 ∧ p = 13 then [] else if b = 13 then [10] else [b]) ++ lr b t := rfl
theorem lr_at {p q : UInt8} (l : List UInt8) (hp : p ≠ 13) (h : q ≠ 13 ∨ ∀ t, l ≠ 10 :: t) : lr q l = lr p l := by
  cases l with
  | nil => rfl
  | cons b t =>
    rw [lr_cons, lr_cons]
    congr 1
    rcases h with h | h
    · simp [hp, h]
    · have : b ≠ 10 := fun e => h t (by rw [e])
      simp [this]
theorem lr_lines : ∀ s, lr 0 s = linesB s := by
  refine lines_ind ?_ ?_ ?_ ?_
  · rw [lines_nil]; rfl
  · intro t h
    rw [lines_crlf, ← h]
    have e1 : lr 0 (13 :: 10 :: t) = 10 :: lr 10 t := by simp [lr]
    rw [e1, lr_at t (p := 0) (by decide) (.inl (by decide))]
  · intro l hl h
    rw [lines_cr hl, ← h]
    have e1 : lr 0 (13 :: l) = 10 :: lr 13 l := by simp [lr]
    rw [e1, lr_at l (p := 0) (by decide) (.inr hl)]
  · intro b l hb h
    rw [lines_cons hb, ← h]
    have e1 : lr 0 (b :: l) = b :: lr b l := by
      rw [lr_cons]
      have : ¬ (b = 10 ∧ (0 : UInt8) = 13) := by rintro ⟨_, h⟩; exact absurd h (by decide)
      rw [if_neg this, if_neg hb]; rfl
    rw [e1, lr_at l (p := 0) (by decide) (.inl hb)]

set_option maxHeartbeats 2000000 in
set_option maxRecDepth 100000 in
theorem refLines_any (a : Option Addr) (n cap : Nat) (bs : List UInt8) (w : World) (hl : bs.length = n) (hn : n ≤ 1000000) (hb : Bytes w a bs) :
    Calls Tryd.prog 29 #[.slice a n cap] w fun e w' => ∃ v, e = .returned v ∧ IsB w' v (linesB bs) ∧ Below w.heap.size w w' := by
  have HL := Lib.hid hl; have HB := Lib.hid hb
  obtain ⟨res, hres⟩ : ∃ res, res = linesB bs := ⟨_, rfl⟩
  rw [← hres]
  have S0 : Hid (res = [] ++ lr (prevB bs 0) (bs.drop 0)) := by unfold Hid; rw [hres, ← lr_lines]; rfl
  have hO := OwnB.empty w 5
  have hb0 := (Below.refl w.heap.size w).alloc (Nat.le_refl _) (.cells #[] 5)
  have HO0 := Lib.hid hO; have HB0 := Lib.hid hb0
  clear hl hb hres hO hb0
  go_enter Tryd.func29, Tryd.ntmps29
  go_wp2
  go_loopw [3, 4] (fun vv iv wr => ∃ (k m : Nat) (out : List UInt8) (oa : Option Addr) (oc : Nat), vv = .slice oa m oc ∧ iv = .int .i64 k ∧ k ≤ n ∧ m ≤ k ∧ Hid (out.length = m) ∧ Hid (OwnB wr w.heap.size 5 (.slice oa m oc) out) ∧ Hid (res = out ++ lr (prevB bs k) (bs.drop k)) ∧ Below w.heap.size w wr) (fun _ iv _ => n - (intOf iv).toNat)
  case atStart => exact ⟨0, 0, [], _, _, rfl, rfl, by omega, by omega, Lib.hid rfl, HO0, S0, HB0.out⟩
  case round =>
    clear S0 HO0 HB0
    obtain ⟨k, m, out, oa, oc, rfl, rfl, hk, hm, HM, HO, HE, hbw⟩ := hrel
    by_cases hlt : k < n
    · obtain ⟨c, hc⟩ := at_some (us := bs) (k := k) (by rw [HL.out]; exact hlt)
      rcases (HB.out.below hbw) with h0 | ⟨b, o, rfl, hbc⟩
      · rw [h0] at hc; simp at hc
      have hcell : wr.cell? ⟨b, o + k, none⟩ = some (.int .u8 (byt c)) := hbc k c hc
      have hE := HE.out
      rw [drop_cons hc, lr_cons] at hE
      have hprev : prevB bs (k + 1) = c := by unfold prevB; rw [if_neg (by omega), Nat.add_sub_cancel, hc]; rfl
      have HBC := Lib.hid hbc
      clear hc HE hbc
      by_cases c13 : c = 13
      · have e10 : (byt c == 10) = false := by rw [c13]; rfl
        have e13 : (byt c == 13) = true := by rw [c13]; rfl
        rw [if_neg (by rintro ⟨h, _⟩; rw [c13] at h; exact absurd h (by decide)), if_pos c13, ← List.append_assoc] at hE
        have HE2 : Hid (res = (out ++ [10]) ++ lr (prevB bs (k + 1)) (bs.drop (k + 1))) := by unfold Hid; rw [hprev]; exact hE
        clear hE c13 hprev
        have tok1 : True := trivial
        go_wp2_with (at_builtin; clear tok1; refine wpList_append_bytes rfl (.tmp 34) (.tmp 35) 24 5 rfl Tryd.underlying24 info5 w.heap.size (.slice oa m oc) out [10] (some ⟨wr.heap.size, 0, none⟩) 1 1 (by go_simp) ?c1 (by go_simp) rfl ?c2 (fun h => by simp at h) ?c4 ?c5 ?_)
        case c1 => exact HO.out.below ((Below.refl _ _).alloc (Nat.le_refl _) _)
        case c2 => exact .inr ⟨_, 0, rfl, bytes_lit wr [10] 5 _⟩
        case c4 => rw [HM.out]; first | omega | (simp; omega)
        case c5 => have h1 := hbw.size; first | omega | (rw [World.size_alloc]; omega)
        intro v' w3 hO3 hg3 hb3
        have hbw3 : Below w.heap.size w w3 := (hbw.alloc hbw.size (.cells #[.int .u8 10] 5)).trans hb3
        obtain ⟨ao, c3, hv⟩ := hO3.form'
        have hlen : (out ++ [10]).length = m + 1 := by rw [List.length_append, HM.out]; rfl
        rw [hlen] at hv
        subst hv
        have HO3 := Lib.hid hO3; have HM3 := Lib.hid hlen
        clear hO3 hg3 hb3 hlen HO HM hcell
        go_wp2
        go_roundw
        case rel => exact ⟨k + 1, m + 1, out ++ [10], ao, c3, rfl, by simp, by omega, by omega, HM3, HO3, HE2, hbw3⟩
        case measure => simp [intOf]; omega
      have e13 : (byt c == 13) = false := by rw [show (13 : Int) = ((13 : Nat) : Int) from rfl, byt_eq (c := c) (n := 13) 13 rfl, decide_eq_false c13]
      by_cases c10 : c = 10
      · have e10 : (byt c == 10) = true := by rw [c10]; rfl
        by_cases hk0 : k = 0
        · have ek : ¬ ((0 : Int) < (k : Int)) := by omega
          rw [if_neg (by rintro ⟨_, h⟩; rw [hk0] at h; exact absurd (show (0 : UInt8) = 13 from h) (by decide)), if_neg c13, ← List.append_assoc] at hE
          have HE2 : Hid (res = (out ++ [c]) ++ lr (prevB bs (k + 1)) (bs.drop (k + 1))) := by unfold Hid; rw [hprev]; exact hE
          clear hE c13 c10 hprev hk0
          have tok1 : True := trivial
          go_wp2_with (at_builtin; clear tok1; refine wpList_append_bytes rfl (.tmp 37) (.tmp 42) 24 5 rfl Tryd.underlying24 info5 w.heap.size (.slice oa m oc) out [c] (some ⟨wr.heap.size, 0, none⟩) 1 1 (by go_simp) ?c1 (by go_simp) rfl ?c2 (fun h => by simp at h) ?c4 ?c5 ?_)
          case c1 => exact HO.out.below ((Below.refl _ _).alloc (Nat.le_refl _) _)
          case c2 => exact .inr ⟨_, 0, rfl, bytes_lit wr [c] 5 _⟩
          case c4 => rw [HM.out]; first | omega | (simp; omega)
          case c5 => have h1 := hbw.size; first | omega | (rw [World.size_alloc]; omega)
          intro v' w3 hO3 hg3 hb3
          have hbw3 : Below w.heap.size w w3 := (hbw.alloc hbw.size (.cells #[.int .u8 (byt c)] 5)).trans hb3
          obtain ⟨ao, c3, hv⟩ := hO3.form'
          have hlen : (out ++ [c]).length = m + 1 := by rw [List.length_append, HM.out]; rfl
          rw [hlen] at hv
          subst hv
          have HO3 := Lib.hid hO3; have HM3 := Lib.hid hlen
          clear hO3 hg3 hb3 hlen HO HM hcell
          go_wp2
          go_roundw
          case rel => exact ⟨k + 1, m + 1, out ++ [c], ao, c3, rfl, by simp, by omega, by omega, HM3, HO3, HE2, hbw3⟩
          case measure => simp [intOf]; omega
        · have ek : (0 : Int) < (k : Int) := by omega
          obtain ⟨q, hq⟩ : ∃ q, k = q + 1 := ⟨k - 1, by omega⟩
          have eK : (k : Int) - 1 = (q : Int) := by omega
          have hqn : q < n := by omega
          obtain ⟨p, hp⟩ := at_some (us := bs) (k := q) (by rw [HL.out]; exact hqn)
          have hcm : wr.cell? ⟨b, o + q, none⟩ = some (.int .u8 (byt p)) := HBC.out q p hp
          have hpv : prevB bs k = p := by unfold prevB; rw [if_neg hk0, hq, Nat.add_sub_cancel, hp]; rfl
          rw [hpv] at hE
          by_cases p13 : p = 13
          · have ep : (byt p == 13) = true := by rw [p13]; rfl
            rw [if_pos ⟨c10, p13⟩, List.nil_append] at hE
            have HE2 : Hid (res = out ++ lr (prevB bs (k + 1)) (bs.drop (k + 1))) := by unfold Hid; rw [hprev]; exact hE
            clear hE c13 c10 hprev hk0 hq hp hpv p13
            go_wp2
            go_roundw
            case rel => exact ⟨k + 1, m, out, oa, oc, rfl, by simp, by omega, by omega, HM, HO, HE2, hbw⟩
            case measure => simp [intOf]; omega
          · have ep : (byt p == 13) = false := by rw [show (13 : Int) = ((13 : Nat) : Int) from rfl, byt_eq (c := p) (n := 13) 13 rfl, decide_eq_false p13]
            rw [if_neg (by rintro ⟨_, h⟩; exact p13 h), if_neg c13, ← List.append_assoc] at hE
            have HE2 : Hid (res = (out ++ [c]) ++ lr (prevB bs (k + 1)) (bs.drop (k + 1))) := by unfold Hid; rw [hprev]; exact hE
            clear hE c13 c10 hprev hk0 hq hp hpv p13
            have tok1 : True := trivial
            go_wp2_with (at_builtin; clear tok1; refine wpList_append_bytes rfl (.tmp 37) (.tmp 42) 24 5 rfl Tryd.underlying24 info5 w.heap.size (.slice oa m oc) out [c] (some ⟨wr.heap.size, 0, none⟩) 1 1 (by go_simp) ?c1 (by go_simp) rfl ?c2 (fun h => by simp at h) ?c4 ?c5 ?_)
            case c1 => exact HO.out.below ((Below.refl _ _).alloc (Nat.le_refl _) _)
            case c2 => exact .inr ⟨_, 0, rfl, bytes_lit wr [c] 5 _⟩
            case c4 => rw [HM.out]; first | omega | (simp; omega)
            case c5 => have h1 := hbw.size; first | omega | (rw [World.size_alloc]; omega)
            intro v' w3 hO3 hg3 hb3
            have hbw3 : Below w.heap.size w w3 := (hbw.alloc hbw.size (.cells #[.int .u8 (byt c)] 5)).trans hb3
            obtain ⟨ao, c3, hv⟩ := hO3.form'
            have hlen : (out ++ [c]).length = m + 1 := by rw [List.length_append, HM.out]; rfl
            rw [hlen] at hv
            subst hv
            have HO3 := Lib.hid hO3; have HM3 := Lib.hid hlen
            clear hO3 hg3 hb3 hlen HO HM hcell
            go_wp2
            go_roundw
            case rel => exact ⟨k + 1, m + 1, out ++ [c], ao, c3, rfl, by simp, by omega, by omega, HM3, HO3, HE2, hbw3⟩
            case measure => simp [intOf]; omega
      · have e10 : (byt c == 10) = false := by rw [show (10 : Int) = ((10 : Nat) : Int) from rfl, byt_eq (c := c) (n := 10) 10 rfl, decide_eq_false c10]
        rw [if_neg (by rintro ⟨h, _⟩; exact c10 h), if_neg c13, ← List.append_assoc] at hE
        have HE2 : Hid (res = (out ++ [c]) ++ lr (prevB bs (k + 1)) (bs.drop (k + 1))) := by unfold Hid; rw [hprev]; exact hE
        clear hE c13 c10 hprev
        have tok1 : True := trivial
        go_wp2_with (at_builtin; clear tok1; refine wpList_append_bytes rfl (.tmp 37) (.tmp 42) 24 5 rfl Tryd.underlying24 info5 w.heap.size (.slice oa m oc) out [c] (some ⟨wr.heap.size, 0, none⟩) 1 1 (by go_simp) ?c1 (by go_simp) rfl ?c2 (fun h => by simp at h) ?c4 ?c5 ?_)
        case c1 => exact HO.out.below ((Below.refl _ _).alloc (Nat.le_refl _) _)
        case c2 => exact .inr ⟨_, 0, rfl, bytes_lit wr [c] 5 _⟩
        case c4 => rw [HM.out]; first | omega | (simp; omega)
        case c5 => have h1 := hbw.size; first | omega | (rw [World.size_alloc]; omega)
        intro v' w3 hO3 hg3 hb3
        have hbw3 : Below w.heap.size w w3 := (hbw.alloc hbw.size (.cells #[.int .u8 (byt c)] 5)).trans hb3
        obtain ⟨ao, c3, hv⟩ := hO3.form'
        have hlen : (out ++ [c]).length = m + 1 := by rw [List.length_append, HM.out]; rfl
        rw [hlen] at hv
        subst hv
        have HO3 := Lib.hid hO3; have HM3 := Lib.hid hlen
        clear hO3 hg3 hb3 hlen HO HM hcell
        go_wp2
        go_roundw
        case rel => exact ⟨k + 1, m + 1, out ++ [c], ao, c3, rfl, by simp, by omega, by omega, HM3, HO3, HE2, hbw3⟩
        case measure => simp [intOf]; omega
    · have hres : res = out := by
        have := HE.out
        rw [List.drop_of_length_le (by rw [HL.out]; omega)] at this
        simpa [lr] using this
      have HRES := Lib.hid hres
      clear hres HE
      go_wp2
      go_ret
      exact ⟨_, rfl, by rw [HRES.out]; exact HO.out.isB, hbw⟩
end Go.Proofs.YthbjibgfhagonaaDoor
