/- A text as a part's name may have it: what the call computes. -/
import Derived.Test.YthedhominhgeaaaDoorBld
namespace Go.Proofs.YthedhominhgeaaaDoor
open Go.RowKit
set_option linter.unusedVariables false
attribute [local go_sem] nat_byt str_size str_get str_from str_to str_list lit_nil str_add lit_slash

theorem bd_below {B b : Nat} {bs : List Value} {w w' : World} (h : Lib.IsBuilder 36 5 B b bs w) (hb : Below w.heap.size w w') : Lib.IsBuilder 36 5 B b bs w' := by
  have go : ∀ p, Lib.BuilderAt 36 5 B b p bs w → Lib.BuilderAt 36 5 B b p bs w' := fun p hp => by
    obtain ⟨hB, v, hbk, hown, hne⟩ := hp
    refine ⟨hB, v, (hb.block b (Array.getElem?_eq_some_iff.1 hbk).1).trans hbk, ⟨hown.1, ?_⟩, hne⟩
    rcases hown.2 with h0 | ⟨g, cap, cur, hv, hg, hh, r⟩
    · exact .inl h0
    · exact .inr ⟨g, cap, cur, hv, hg, (hb.block g (Array.getElem?_eq_some_iff.1 hh).1).trans hh, r⟩
  rcases h with h | h
  · exact .inl (go _ h)
  · exact .inr (go _ h)
theorem bdF_below {B b : Nat} {bs : List Value} {w w' : World} (h : Lib.IsBuilderF 36 5 B b bs w) (hb : Below w.heap.size w w') : Lib.IsBuilderF 36 5 B b bs w' := by
  have go : ∀ p, Lib.BuilderAtF 36 5 B b p bs w → Lib.BuilderAtF 36 5 B b p bs w' := fun p hp => by
    obtain ⟨hB, v, hbk, hown, hne⟩ := hp
    refine ⟨hB, v, (hb.block b (Array.getElem?_eq_some_iff.1 hbk).1).trans hbk, ⟨hown.1, ?_⟩, hne⟩
    rcases hown.2 with h0 | ⟨g, cap, cur, fz, hv, hg, hh, r⟩
    · exact .inl h0
    · exact .inr ⟨g, cap, cur, fz, hv, hg, (hb.block g (Array.getElem?_eq_some_iff.1 hh).1).trans hh, r⟩
  rcases h with h | h
  · exact .inl (go _ h)
  · exact .inr (go _ h)
theorem bd_new (w : World) : Lib.IsBuilder 36 5 w.heap.size w.heap.size (Lib.byteCells []) (w.alloc (.cells #[.pointer none, .slice none 0 0] 36)) :=
  .inl ⟨Nat.le_refl _, .slice none 0 0, World.alloc_heap_new w _, ⟨rfl, .inl ⟨rfl, rfl⟩⟩, by simp [Value.ownBlock]⟩
def normTok : Tok → List UInt8
  | .esc v => if plain v then [v] else pct v
  | .raw c => if sign c || decide (byt c = 47) then [c] else pct c
def normL (l : List UInt8) : List UInt8 := (toks l).flatMap normTok
theorem norm_esc (v : UInt8) : normTok (.esc v) = if plain v then [v] else pct v := rfl
theorem norm_raw (c : UInt8) : normTok (.raw c) = if sign c || decide (byt c = 47) then [c] else pct c := rfl
theorem normTok_le (t : Tok) : (normTok t).length ≤ 3 := by
  cases t with
  | esc v => rw [norm_esc]; split <;> simp [pct]
  | raw c => rw [norm_raw]; split <;> simp [pct]
theorem flat_le (ts : List Tok) : (ts.flatMap normTok).length ≤ 3 * ts.length := by
  induction ts with
  | nil => simp
  | cons t r ih => rw [List.flatMap_cons, List.length_append, List.length_cons]; have := normTok_le t; omega
theorem toksF_le : ∀ (n : Nat) (l : List UInt8), (toksF n l).length ≤ n := by
  intro n
  induction n with
  | zero => intro l; simp [toksF]
  | succ n ih =>
    intro l
    cases l with
    | nil => simp [toksF]
    | cons c r =>
      simp only [toksF]
      cases toldV (c :: r) with
      | none => simp only [List.length_cons]; have := ih r; omega
      | some v => simp only [List.length_cons]; have := ih (r.drop 2); omega
theorem normL_le (l : List UInt8) : (normL l).length ≤ 3 * l.length := by
  have h1 := flat_le (toks l)
  have h2 := toksF_le l.length l
  unfold normL
  have : (toks l).length ≤ l.length := h2
  omega
theorem right_len {l : List UInt8} (h : rightB l = true) : 2 ≤ l.length ∧ l.length ≤ 255 := by
  cases l with
  | nil => simp [rightB] at h
  | cons c r =>
    have h2 : (decide (c = 47) && decide (1 ≤ r.length ∧ r.length ≤ 254) && (splitL r).all segB) = true := h
    simp at h2
    simp; omega
theorem right_out {o m : List UInt8} (h : 255 < o.length) : rightB o = false ∧ rightB (o ++ m) = false := by
  refine ⟨?_, ?_⟩
  · cases h2 : rightB o with
    | false => rfl
    | true => have := right_len h2; omega
  · cases h2 : rightB (o ++ m) with
    | false => rfl
    | true => have := right_len h2; rw [List.length_append] at this; omega
def normalV (l : List UInt8) : Value := if rightB (normL l) then .tuple #[.string (str (normL l)), .bool true] else .tuple #[.string (str []), .bool false]
theorem bstring_any (B b : Nat) (l : List UInt8) (w : World) (h : Lib.IsBuilderF 36 5 B b (Lib.byteCells l) w) (hBw : B ≤ w.heap.size) :
    Calls Tryd.prog 31 #[.pointer (some ⟨b, 0, none⟩)] w fun e w' => e = .returned (.string (str l)) ∧ (Lib.IsBuilderF 36 5 B b (Lib.byteCells l) w' ∧ Below B w w') := Tryd.Builder_String_any_f B b l w h hBw

set_option maxRecDepth 100000 in
set_option maxHeartbeats 4000000 in
theorem normal_any (l : List UInt8) (w : World) (hl : l.length ≤ 100000) : Calls Tryd.prog 8 #[.string (str l)] w fun e w' => e = .returned (normalV l) ∧ Below w.heap.size w w' := by
  have HP := Lib.hid (fun c w => plain_any c w)
  have HS := Lib.hid (fun c w => sign_any c w)
  have HPC := Lib.hid (fun c w => percent_any c w)
  obtain ⟨N, hN⟩ : ∃ N, N = normL l := ⟨_, rfl⟩
  have hNl : N.length ≤ 300000 := by rw [hN]; have := normL_le l; omega
  obtain ⟨res, hres⟩ : ∃ res, res = normalV l := ⟨_, rfl⟩
  have HRES : Hid (res = if rightB N then .tuple #[.string (str N), .bool true] else .tuple #[.string (str []), .bool false]) := by rw [hres, hN]; exact Lib.hid rfl
  have HN0 : Hid (N = [] ++ normL l) := Lib.hid hN
  rw [← hres]
  clear hres hN
  go_enter Tryd.func8, Tryd.ntmps8
  go_wp2_with fail
  have hbn := bd_new w
  have hb1 : Below w.heap.size w (w.alloc (.cells #[.pointer none, .slice none 0 0] 36)) := (Below.refl _ _).alloc (Nat.le_refl _) _
  obtain ⟨w1, hw1⟩ : ∃ x, x = w.alloc (.cells #[.pointer none, .slice none 0 0] 36) := ⟨_, rfl⟩
  rw [← hw1] at hbn hb1 ⊢
  have HBD := Lib.hid hbn; have HB := Lib.hid hb1
  clear hbn hb1 hw1
  obtain ⟨b, hb⟩ : ∃ b, b = w.heap.size := ⟨_, rfl⟩
  rw [← hb] at HBD ⊢
  have HBB := Lib.hid hb
  clear hb
  go_loopw [0] (fun s wx => ∃ (t o : List UInt8), s = .string (str t) ∧ t.length ≤ 100000 ∧ Hid (N = o ++ normL t) ∧ Hid (Lib.IsBuilder 36 5 b b (Lib.byteCells o) wx) ∧ Hid (Below w.heap.size w wx)) (fun s _ => strLen s)
  case atStart => exact ⟨l, [], rfl, hl, HN0, HBD, HB⟩
  case round =>
    clear HN0 HBD HB
    obtain ⟨t, o, rfl, ht, HN, HBD, HB⟩ := hrel
    have hol : o.length ≤ 300000 := by have := congrArg List.length HN.out; rw [List.length_append] at this; omega
    have HLEN := Lib.hid (Tryd.Builder_Len b b (Lib.byteCells o) wr HBD.out)
    rw [Lib.byteCells_length] at HLEN
    have hbw : b ≤ wr.heap.size := by rw [HBB.out]; exact HB.out.size
    by_cases hgo : t ≠ [] ∧ o.length ≤ 255
    · obtain ⟨hne, hlen⟩ := hgo
      have hE : (t == []) = false := by rw [beq_eq_false_iff_ne]; exact hne
      have i1 : (o.length : Int) ≤ 255 := by omega
      obtain ⟨c, r, hcr⟩ : ∃ c r, t = c :: r := by
        cases t with
        | nil => exact absurd rfl hne
        | cons c r => exact ⟨c, r, rfl⟩
      have HT := Lib.hid (told_any t wr (by omega))
      cases hv : toldV (c :: r) with
      | some v =>
        have hlong := told_long hv
        rw [← hcr] at hlong
        rw [hcr, hv, ← hcr] at HT
        have HNT : Hid (N = o ++ (normTok (.esc v) ++ normL (t.drop 3))) := by
          have := HN.out
          rw [hcr] at this ⊢
          unfold normL at this
          rw [toks_esc hv, List.flatMap_cons] at this
          exact Lib.hid this
        clear hcr hv hne HN
        go_wp2_with fail
        refine HLEN.out.mono ?_
        rintro e w2 ⟨rfl, hww⟩
        subst hww
        go_wp2_with fail
        refine (Calls.mono HT.out ?_)
        rintro e w3 ⟨hb3, rfl⟩
        have HBD3 := Lib.hid (bd_below HBD.out hb3)
        have HB3 := Lib.hid (below_step HB.out hb3)
        have hbw3 : b ≤ w3.heap.size := Nat.le_trans hbw hb3.size
        clear hb3 HT HBD HB HLEN
        cases hp : plain v with
        | true =>
          have hnt : normTok (.esc v) = [v] := by rw [norm_esc, hp]; rfl
          rw [hnt] at HNT
          have HW := Lib.hid (writeByte_any b b o v w3 HBD3.out (by omega) hbw3)
          go_wp2_with (go_at_call 26; refine (HP.out _ _).mono ?_; rw [hp]; rintro e w4 ⟨rfl, rfl⟩)
          refine HW.out.mono ?_
          rintro e w5 ⟨rfl, hd5, hb5⟩
          have HB5 : Hid (Below w.heap.size w w5) := Lib.hid (by have h := HB3.out; have h2 := hb5; rw [HBB.out] at h2; exact h.trans h2)
          have HD5 := Lib.hid hd5
          clear hd5 hb5
          go_wp2_with fail
          go_roundw
          case rel => exact ⟨t.drop 3, o ++ [v], rfl, by rw [List.length_drop]; omega, by rw [HNT.out]; exact Lib.hid (by simp), HD5, HB5⟩
          case measure => rw [strLen_str, strLen_str, List.length_drop]; omega
        | false =>
          have hnt : normTok (.esc v) = pct v := by rw [norm_esc, hp]; rfl
          rw [hnt] at HNT
          go_wp2_with (go_at_call 26; refine (HP.out _ _).mono ?_; rw [hp]; rintro e w4 ⟨rfl, rfl⟩)
          refine (HPC.out _ _).mono ?_
          rintro e w4 ⟨rfl, hb4⟩
          have HW := Lib.hid (writeString_any b b o (pct v) w4 (bd_below HBD3.out hb4) (by simp [pct]; omega) (Nat.le_trans hbw3 hb4.size))
          have HB4 := Lib.hid (below_step HB3.out hb4)
          clear hb4
          go_wp2_with fail
          refine HW.out.mono ?_
          rintro e w5 ⟨⟨x, rfl⟩, hd5, hb5⟩
          have HB5 : Hid (Below w.heap.size w w5) := Lib.hid (by have h := HB4.out; have h2 := hb5; rw [HBB.out] at h2; exact h.trans h2)
          have HD5 := Lib.hid hd5
          clear hd5 hb5
          go_wp2_with fail
          go_roundw
          case rel => exact ⟨t.drop 3, o ++ pct v, rfl, by rw [List.length_drop]; omega, by rw [HNT.out]; exact Lib.hid (by simp), HD5, HB5⟩
          case measure => rw [strLen_str, strLen_str, List.length_drop]; omega
      | none =>
        rw [hcr, hv, ← hcr] at HT
        have HNT : Hid (N = o ++ (normTok (.raw c) ++ normL t.tail)) := by
          have := HN.out
          rw [hcr] at this ⊢
          unfold normL at this
          rw [toks_raw hv, List.flatMap_cons] at this
          exact Lib.hid this
        have hpos : 0 < t.length := by rw [hcr]; simp
        have e0 : ∀ h : 0 < t.length, t[0]'h = c := fun h => by subst hcr; rfl
        have i2 : (0 : Int) < (t.length : Int) := by omega
        clear hcr hv hne HN
        go_wp2_with fail
        refine HLEN.out.mono ?_
        rintro e w2 ⟨rfl, hww⟩
        subst hww
        go_wp2_with fail
        refine (Calls.mono HT.out ?_)
        rintro e w3 ⟨hb3, x, rfl⟩
        have HBD3 := Lib.hid (bd_below HBD.out hb3)
        have HB3 := Lib.hid (below_step HB.out hb3)
        have hbw3 : b ≤ w3.heap.size := Nat.le_trans hbw hb3.size
        clear hb3 HT HBD HB HLEN
        by_cases hs : sign c = true ∨ byt c = 47
        · have hnt : normTok (.raw c) = [c] := by
            rw [norm_raw]
            have : (sign c || decide (byt c = 47)) = true := by
              rcases hs with h | h
              · rw [h]; rfl
              · rw [decide_eq_true h, Bool.or_true]
            rw [this]; rfl
          rw [hnt] at HNT
          have HW := Lib.hid (writeByte_any b b o c w3 HBD3.out (by omega) hbw3)
          cases hsc : sign c with
          | true =>
            clear hs
            go_wp2_with (go_at_call 30; refine (HS.out _ _).mono ?_; rw [hsc]; rintro e w4 ⟨rfl, rfl⟩)
            refine HW.out.mono ?_
            rintro e w5 ⟨rfl, hd5, hb5⟩
            have HB5 : Hid (Below w.heap.size w w5) := Lib.hid (by have h := HB3.out; have h2 := hb5; rw [HBB.out] at h2; exact h.trans h2)
            have HD5 := Lib.hid hd5
            clear hd5 hb5
            go_wp2_with fail
            go_roundw
            case rel => exact ⟨t.tail, o ++ [c], rfl, by rw [List.length_tail]; omega, by rw [HNT.out]; exact Lib.hid (by simp), HD5, HB5⟩
            case measure => rw [strLen_str, strLen_str, List.length_tail]; omega
          | false =>
            have h47 : byt c = 47 := by
              rcases hs with h | h
              · rw [hsc] at h; cases h
              · exact h
            have h48 : (byt c == 47) = true := by rw [h47]; rfl
            clear hs h47
            go_wp2_with (go_at_call 30; refine (HS.out _ _).mono ?_; rw [hsc]; rintro e w4 ⟨rfl, rfl⟩)
            refine HW.out.mono ?_
            rintro e w5 ⟨rfl, hd5, hb5⟩
            have HB5 : Hid (Below w.heap.size w w5) := Lib.hid (by have h := HB3.out; have h2 := hb5; rw [HBB.out] at h2; exact h.trans h2)
            have HD5 := Lib.hid hd5
            clear hd5 hb5
            go_wp2_with fail
            go_roundw
            case rel => exact ⟨t.tail, o ++ [c], rfl, by rw [List.length_tail]; omega, by rw [HNT.out]; exact Lib.hid (by simp), HD5, HB5⟩
            case measure => rw [strLen_str, strLen_str, List.length_tail]; omega
        · have hsc : sign c = false := by
            cases h : sign c with
            | false => rfl
            | true => exact absurd (.inl h) hs
          have h47 : ¬ byt c = 47 := fun h => hs (.inr h)
          have hnt : normTok (.raw c) = pct c := by
            rw [norm_raw, hsc, decide_eq_false h47]; rfl
          rw [hnt] at HNT
          have h48 : (byt c == 47) = false := beq_eq_false_iff_ne.2 h47
          clear hs h47
          go_wp2_with (go_at_call 30; refine (HS.out _ _).mono ?_; rw [hsc]; rintro e w4 ⟨rfl, rfl⟩)
          refine (HPC.out _ _).mono ?_
          rintro e w4 ⟨rfl, hb4⟩
          have HW := Lib.hid (writeString_any b b o (pct c) w4 (bd_below HBD3.out hb4) (by simp [pct]; omega) (Nat.le_trans hbw3 hb4.size))
          have HB4 := Lib.hid (below_step HB3.out hb4)
          clear hb4
          go_wp2_with fail
          refine HW.out.mono ?_
          rintro e w5 ⟨⟨x, rfl⟩, hd5, hb5⟩
          have HB5 : Hid (Below w.heap.size w w5) := Lib.hid (by have h := HB4.out; have h2 := hb5; rw [HBB.out] at h2; exact h.trans h2)
          have HD5 := Lib.hid hd5
          clear hd5 hb5
          go_wp2_with fail
          go_roundw
          case rel => exact ⟨t.tail, o ++ pct c, rfl, by rw [List.length_tail]; omega, by rw [HNT.out]; exact Lib.hid (by simp), HD5, HB5⟩
          case measure => rw [strLen_str, strLen_str, List.length_tail]; omega
    · have hro : rightB o = rightB N ∧ (rightB N = true → o = N) := by
        by_cases ht0 : t = []
        · have : N = o := by
            have h := HN.out
            rw [ht0] at h
            rw [h]; simp [normL, toks_nil]
          exact ⟨by rw [this], fun _ => this.symm⟩
        · have h255 : 255 < o.length := by
            rcases Nat.lt_or_ge 255 o.length with h | h
            · exact h
            · exact absurd ⟨ht0, h⟩ hgo
          have h := right_out (m := normL t) h255
          rw [HN.out]
          exact ⟨by rw [h.1, h.2], fun h2 => by rw [h.2] at h2; cases h2⟩
      by_cases ht0 : t = []
      · subst ht0
        have HST := Lib.hid (bstring_any b b o wr (Lib.IsBuilderF.of HBD.out) hbw)
        have HRT := Lib.hid (fun w => right_any o w (by omega))
        clear hgo HN HLEN
        go_wp2_with fail
        refine HST.out.mono ?_
        rintro e w5 ⟨rfl, hd5, hb5⟩
        have HB5 : Hid (Below w.heap.size w w5) := Lib.hid (by have h := HB.out; have h2 := hb5; rw [HBB.out] at h2; exact h.trans h2)
        have HD5 := Lib.hid hd5
        have hbw5 : b ≤ w5.heap.size := by rw [HBB.out]; exact HB5.out.size
        clear hd5 hb5 HST HBD HB
        cases hr : rightB o with
        | false =>
          rw [hr] at HRT
          rw [← hro.1, hr] at HRES
          have hres : res = .tuple #[.string (str []), .bool false] := HRES.out
          subst hres
          clear HRES hro
          try clear hoN
          go_wp2_with fail
          refine (HRT.out _).mono ?_
          rintro e w6 ⟨rfl, hb6⟩
          go_wp2_with fail
          go_ret2
          exact ⟨rfl, below_step HB5.out hb6⟩
        | true =>
          rw [hr] at HRT
          have hoN : o = N := hro.2 (by rw [← hro.1, hr])
          rw [← hro.1, hr, ← hoN] at HRES
          have hres : res = .tuple #[.string (str o), .bool true] := HRES.out
          subst hres
          clear HRES hro
          try clear hoN
          go_wp2_with fail
          refine (HRT.out _).mono ?_
          rintro e w6 ⟨rfl, hb6⟩
          have HB6 := Lib.hid (below_step HB5.out hb6)
          have HST2 := Lib.hid (bstring_any b b o w6 (bdF_below HD5.out hb6) (Nat.le_trans hbw5 hb6.size))
          clear hb6 HRT
          go_wp2_with fail
          refine HST2.out.mono ?_
          rintro e w7 ⟨rfl, hd7, hb7⟩
          go_wp2_with fail
          go_ret2
          exact ⟨rfl, (by have h := HB6.out; have h2 := hb7; rw [HBB.out] at h2; exact h.trans h2)⟩
      · have hE : (t == []) = false := by rw [beq_eq_false_iff_ne]; exact ht0
        have h255 : (255 : Int) < (o.length : Int) := by
          rcases Nat.lt_or_ge 255 o.length with h | h
          · omega
          · exact absurd ⟨ht0, h⟩ hgo
        have HST := Lib.hid (bstring_any b b o wr (Lib.IsBuilderF.of HBD.out) hbw)
        have HRT := Lib.hid (fun w => right_any o w (by omega))
        clear hgo ht0 HN
        go_wp2_with fail
        refine HLEN.out.mono ?_
        rintro e w2 ⟨rfl, hww⟩
        subst hww
        go_wp2_with fail
        refine HST.out.mono ?_
        rintro e w5 ⟨rfl, hd5, hb5⟩
        have HB5 : Hid (Below w.heap.size w w5) := Lib.hid (by have h := HB.out; have h2 := hb5; rw [HBB.out] at h2; exact h.trans h2)
        have HD5 := Lib.hid hd5
        have hbw5 : b ≤ w5.heap.size := by rw [HBB.out]; exact HB5.out.size
        clear hd5 hb5 HST HBD HB
        cases hr : rightB o with
        | false =>
          rw [hr] at HRT
          rw [← hro.1, hr] at HRES
          have hres : res = .tuple #[.string (str []), .bool false] := HRES.out
          subst hres
          clear HRES hro
          try clear hoN
          go_wp2_with fail
          refine (HRT.out _).mono ?_
          rintro e w6 ⟨rfl, hb6⟩
          go_wp2_with fail
          go_ret2
          exact ⟨rfl, below_step HB5.out hb6⟩
        | true =>
          rw [hr] at HRT
          have hoN : o = N := hro.2 (by rw [← hro.1, hr])
          rw [← hro.1, hr, ← hoN] at HRES
          have hres : res = .tuple #[.string (str o), .bool true] := HRES.out
          subst hres
          clear HRES hro
          try clear hoN
          go_wp2_with fail
          refine (HRT.out _).mono ?_
          rintro e w6 ⟨rfl, hb6⟩
          have HB6 := Lib.hid (below_step HB5.out hb6)
          have HST2 := Lib.hid (bstring_any b b o w6 (bdF_below HD5.out hb6) (Nat.le_trans hbw5 hb6.size))
          clear hb6 HRT
          go_wp2_with fail
          refine HST2.out.mono ?_
          rintro e w7 ⟨rfl, hd7, hb7⟩
          go_wp2_with fail
          go_ret2
          exact ⟨rfl, (by have h := HB6.out; have h2 := hb7; rw [HBB.out] at h2; exact h.trans h2)⟩
end Go.Proofs.YthedhominhgeaaaDoor
