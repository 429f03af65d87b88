/- The signs of a text; a segment: what the call computes. -/
import Derived.Test.YthedhominhgeaaaDoorDig
namespace Go.Proofs.YthedhominhgeaaaDoor
open Go.RowKit
set_option linter.unusedVariables false
attribute [local go_sem] nat_byt str_size str_get str_from str_to str_list

/-- A byte that is told, or one that stands itself. -/
inductive Tok where
  | esc (v : UInt8)
  | raw (c : UInt8)
def toksF : Nat → List UInt8 → List Tok
  | 0, _ => []
  | _ + 1, [] => []
  | n + 1, c :: r => match toldV (c :: r) with
    | some v => .esc v :: toksF n (r.drop 2)
    | none => .raw c :: toksF n r
def toks (l : List UInt8) : List Tok := toksF l.length l
theorem toksF_eq : ∀ (n m : Nat) (l : List UInt8), l.length ≤ n → l.length ≤ m → toksF n l = toksF m l := by
  intro n
  induction n with
  | zero =>
    intro m l h _
    have : l = [] := List.length_eq_zero_iff.1 (by omega)
    subst this
    cases m <;> rfl
  | succ n ih =>
    intro m l h h2
    cases l with
    | nil => cases m <;> rfl
    | cons c r =>
      cases m with
      | zero => simp at h2
      | succ m =>
        simp only [List.length_cons] at h h2
        simp only [toksF]
        cases toldV (c :: r) with
        | none => rw [ih m r (by omega) (by omega)]
        | some v => rw [ih m (r.drop 2) (by rw [List.length_drop]; omega) (by rw [List.length_drop]; omega)]
theorem toks_nil : toks [] = [] := rfl
theorem toks_esc {c : UInt8} {r : List UInt8} {v : UInt8} (h : toldV (c :: r) = some v) : toks (c :: r) = .esc v :: toks (r.drop 2) := by
  show toksF (r.length + 1) (c :: r) = _
  simp only [toksF, h]
  rw [toksF_eq r.length (r.drop 2).length (r.drop 2) (by rw [List.length_drop]; omega) (Nat.le_refl _)]; rfl
theorem toks_raw {c : UInt8} {r : List UInt8} (h : toldV (c :: r) = none) : toks (c :: r) = .raw c :: toks r := by
  show toksF (r.length + 1) (c :: r) = _
  simp only [toksF, h]; rfl
/-- May a told byte stand in a name? -/
def fine (v : UInt8) : Bool := !(plain v || decide (byt v = 47) || decide (byt v = 92) || decide (byt v = 0))
def segTok : Tok → Bool
  | .esc v => fine v
  | .raw c => sign c
def segB (l : List UInt8) : Bool := !(l.isEmpty) && !(List.isSuffixOf [46] l) && (toks l).all segTok

def strLen : Value → Nat
  | .string s => s.size
  | _ => 0
theorem strLen_str (l : List UInt8) : strLen (.string (str l)) = l.length := str_size l
theorem lit_nil : (⟨#[]⟩ : ByteArray).toList = [] := lit_list []
attribute [local go_sem] lit_nil
theorem told_long {l : List UInt8} {v : UInt8} (h : toldV l = some v) : 3 ≤ l.length := by
  match l, h with
  | a :: x :: y :: r, _ => simp

set_option maxHeartbeats 1000000 in
theorem segment_any (l : List UInt8) (w : World) (hl : l.length ≤ 1099511627776) : Calls Tryd.prog 34 #[.string (str l)] w fun e w' => e = .returned (.bool (segB l)) ∧ Below w.heap.size w w' := by
  have HP := Lib.hid (fun c w => plain_any c w)
  have HS := Lib.hid (fun c w => sign_any c w)
  by_cases he : l = []
  · subst he
    go_enter Tryd.func34, Tryd.ntmps34
    go_wp2_with fail
    go_ret
    exact ⟨rfl, Below.refl _ _⟩
  have hE : (l == []) = false := by rw [beq_eq_false_iff_ne]; exact he
  have HX := Tryd.strings_HasSuffix (str l) ⟨#[46]⟩ w (by rw [str_size]; omega)
  rw [str_data, show (⟨#[46]⟩ : ByteArray).data.toList = [46] from rfl] at HX
  have hseg : segB l = (!(List.isSuffixOf [46] l) && (toks l).all segTok) := by
    unfold segB; cases l with
    | nil => exact absurd rfl he
    | cons c r => rfl
  rw [hseg]
  have HX2 : Calls Tryd.prog 48 #[.string (str l), .string ⟨#[46]⟩] w fun e w' => e = .returned (.bool (List.isSuffixOf [46] l)) ∧ w' = w := HX
  clear HX hseg
  cases hs : List.isSuffixOf [46] l with
  | true =>
    rw [hs] at HX2
    have HX3 := Lib.hid HX2
    clear HX2 hs
    go_enter Tryd.func34, Tryd.ntmps34
    go_wp2_with fail
    refine HX3.out.mono ?_
    rintro e w1 ⟨rfl, hww⟩
    subst hww
    go_wp2_with fail
    go_ret
    exact ⟨rfl, Below.refl _ _⟩
  | false =>
    rw [hs] at HX2
    have HX3 := Lib.hid HX2
    obtain ⟨res, hres⟩ : ∃ res, (toks l).all segTok = res := ⟨_, rfl⟩
    have HR := Lib.hid hres
    rw [hres]
    clear HX2 hs hres
    go_enter Tryd.func34, Tryd.ntmps34
    go_wp2_with fail
    refine HX3.out.mono ?_
    rintro e w1 ⟨rfl, hww⟩
    subst hww
    go_wp2_with fail
    go_loopw [0] (fun s wx => ∃ (t : List UInt8), s = .string (str t) ∧ t.length ≤ 1099511627776 ∧ Hid ((toks t).all segTok = res) ∧ Hid (Below w1.heap.size w1 wx)) (fun s _ => strLen s)
    case atStart => exact ⟨l, rfl, hl, HR, Lib.hid (Below.refl _ _)⟩
    case round =>
      clear HR HX3 hE he
      obtain ⟨t, rfl, ht, HR, HB⟩ := hrel
      cases t with
      | nil =>
        have hr := HR.out
        rw [toks_nil] at hr
        have hr2 : res = true := hr.symm
        subst hr2
        go_wp2_with fail
        go_ret
        exact ⟨rfl, HB.out⟩
      | cons c r =>
        have HT := Lib.hid (told_any (c :: r) wr ht)
        have hne : ((c :: r) == []) = false := rfl
        cases hv : toldV (c :: r) with
        | some v =>
          have hlong := told_long hv
          rw [hv] at HT
          have hr := HR.out
          rw [toks_esc hv] at hr
          have HR2 : Hid ((fine v && (toks (r.drop 2)).all segTok) = res) := Lib.hid hr
          obtain ⟨T, hT⟩ : ∃ T, T = c :: r := ⟨_, rfl⟩
          have hd : T.drop 3 = r.drop 2 := by rw [hT]; rfl
          rw [← hT] at HT hne ht hlong ⊢
          have HD := Lib.hid hd
          clear hT hd HR hr hv
          go_wp2_with fail
          refine (Calls.mono (HT.out) ?_)
          rintro e w2 ⟨hb2, rfl⟩
          have HB2 := Lib.hid (below_step HB.out hb2)
          clear HT hb2
          cases hp : plain v with
          | true =>
            have hff : fine v = false := by unfold fine; rw [hp]; rfl
            rw [hff] at HR2
            have hr2 : res = false := HR2.out.symm
            subst hr2
            clear HR2 hff
            go_wp2_with (go_at_call 26; refine (HP.out _ _).mono ?_; rw [hp]; rintro e w3 ⟨rfl, rfl⟩)
            go_ret
            exact ⟨rfl, HB2.out⟩
          | false =>
            by_cases v1 : byt v = 47
            · have e1 : (byt v == 47) = true := by rw [v1]; rfl
              have hff : fine v = false := by unfold fine; rw [hp, decide_eq_true v1]; rfl
              rw [hff] at HR2
              have hr2 : res = false := HR2.out.symm
              subst hr2
              clear HR2 hff
              clear v1
              go_wp2_with (go_at_call 26; refine (HP.out _ _).mono ?_; rw [hp]; rintro e w3 ⟨rfl, rfl⟩)
              go_ret
              exact ⟨rfl, HB2.out⟩
            have e1 : (byt v == 47) = false := beq_eq_false_iff_ne.2 v1
            by_cases v2 : byt v = 92
            · have e2 : (byt v == 92) = true := by rw [v2]; rfl
              have hff : fine v = false := by unfold fine; rw [hp, decide_eq_false v1, decide_eq_true v2]; rfl
              rw [hff] at HR2
              have hr2 : res = false := HR2.out.symm
              subst hr2
              clear HR2 hff
              clear v1 v2
              go_wp2_with (go_at_call 26; refine (HP.out _ _).mono ?_; rw [hp]; rintro e w3 ⟨rfl, rfl⟩)
              go_ret
              exact ⟨rfl, HB2.out⟩
            have e2 : (byt v == 92) = false := beq_eq_false_iff_ne.2 v2
            by_cases v3 : byt v = 0
            · have e3 : (byt v == 0) = true := by rw [v3]; rfl
              have hff : fine v = false := by unfold fine; rw [hp, decide_eq_false v1, decide_eq_false v2, decide_eq_true v3]; rfl
              rw [hff] at HR2
              have hr2 : res = false := HR2.out.symm
              subst hr2
              clear HR2 hff
              clear v1 v2 v3
              go_wp2_with (go_at_call 26; refine (HP.out _ _).mono ?_; rw [hp]; rintro e w3 ⟨rfl, rfl⟩)
              go_ret
              exact ⟨rfl, HB2.out⟩
            have e3 : (byt v == 0) = false := beq_eq_false_iff_ne.2 v3
            have hff : fine v = true := by unfold fine; rw [hp, decide_eq_false v1, decide_eq_false v2, decide_eq_false v3]; rfl
            rw [hff] at HR2
            have HR3 : Hid ((toks (T.drop 3)).all segTok = res) := by rw [HD.out]; exact HR2
            clear v1 v2 v3 HR2 hff
            go_wp2_with (go_at_call 26; refine (HP.out _ _).mono ?_; rw [hp]; rintro e w3 ⟨rfl, rfl⟩)
            go_roundw
            case rel => exact ⟨T.drop 3, rfl, by rw [List.length_drop]; omega, HR3, HB2⟩
            case measure => rw [strLen_str, strLen_str, List.length_drop]; omega
        | none =>
          rw [hv] at HT
          have hr := HR.out
          rw [toks_raw hv] at hr
          have HR2 : Hid ((sign c && (toks r).all segTok) = res) := Lib.hid hr
          obtain ⟨T, hT⟩ : ∃ T, T = c :: r := ⟨_, rfl⟩
          have hd : T.tail = r := by rw [hT]; rfl
          have hpos : 0 < T.length := by rw [hT]; simp
          have e0 : ∀ h : 0 < T.length, T[0]'h = c := fun h => by subst hT; rfl
          have i1 : (0 : Int) < (T.length : Int) := by omega
          rw [← hT] at HT hne ht ⊢
          have HD := Lib.hid hd
          clear hT hd HR hr hv
          go_wp2_with fail
          refine (Calls.mono (HT.out) ?_)
          rintro e w2 ⟨hb2, v, rfl⟩
          have HB2 := Lib.hid (below_step HB.out hb2)
          clear HT hb2
          cases hs : sign c with
          | true =>
            rw [hs] at HR2
            have HR3 : Hid ((toks (T.tail)).all segTok = res) := by rw [HD.out]; exact HR2
            clear HR2
            go_wp2_with (go_at_call 30; refine (HS.out _ _).mono ?_; rw [hs]; rintro e w3 ⟨rfl, rfl⟩)
            go_roundw
            case rel => exact ⟨T.tail, rfl, by rw [List.length_tail]; omega, HR3, HB2⟩
            case measure => rw [strLen_str, strLen_str, List.length_tail]; omega
          | false =>
            rw [hs] at HR2
            have hr2 : res = false := HR2.out.symm
            subst hr2
            clear HR2
            go_wp2_with (go_at_call 30; refine (HS.out _ _).mono ?_; rw [hs]; rintro e w3 ⟨rfl, rfl⟩)
            go_ret
            exact ⟨rfl, HB2.out⟩
end Go.Proofs.YthedhominhgeaaaDoor
