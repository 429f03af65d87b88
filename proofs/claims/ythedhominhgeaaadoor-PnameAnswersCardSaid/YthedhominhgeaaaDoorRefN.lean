/- A text as a part's name may have it, by the document's answer: what the call computes. -/
import Derived.Test.YthedhominhgeaaaDoorRefR
namespace Go.Proofs.YthedhominhgeaaaDoor
open Go.RowKit
set_option linter.unusedVariables false
theorem byt_mod (c : UInt8) : byt c % 256 = byt c := by
  have h0 := byt_nonneg c; have h1 := byt_lt c
  omega
attribute [local go_sem] nat_byt str_size str_get str_from str_to str_list lit_list wrap_byt str_add lit_nil byt_mod

theorem three_row (w : World) (x y : UInt8) : (convert 34 9 (.slice (some ⟨w.heap.size, 0, none⟩) 3 3)).run Tryd.prog (w.alloc (.cells #[.int .u8 37, .int .u8 (byt x), .int .u8 (byt y)] 5)).drew = .ok (.string (str [37, x, y])) (w.alloc (.cells #[.int .u8 37, .int .u8 (byt x), .int .u8 (byt y)] 5)).drew
    ∧ Below w.heap.size w (w.alloc (.cells #[.int .u8 37, .int .u8 (byt x), .int .u8 (byt y)] 5)).drew := by
  obtain ⟨w1, hw1⟩ : ∃ x', x' = (w.alloc (.cells #[.int .u8 37, .int .u8 (byt x), .int .u8 (byt y)] 5)).drew := ⟨_, rfl⟩
  have hblk : w1.heap[w.heap.size]? = some (.cells #[.int .u8 37, .int .u8 (byt x), .int .u8 (byt y)] 5) := by rw [hw1]; exact heap_alloc_new w _
  have hrow : Row w.heap.size [37, x, y] w1 := by
    refine ⟨fun i z hi => ?_, fun i hi => by simp [World.frozen?, hblk]⟩
    rw [cell_of_row _ _ _ _ _ _ hblk]
    match i, hi with
    | 0, hi => simp at hi; subst hi; rfl
    | 1, hi => simp at hi; subst hi; rfl
    | 2, hi => simp at hi; subst hi; rfl
  have q := hrow.back (n := 3) (cap := 3) rfl
  have hb : Below w.heap.size w w1 := by rw [hw1]; exact Below.drew ((Below.refl _ _).alloc (Nat.le_refl _) _)
  rw [← hw1]
  exact ⟨q, hb⟩
theorem one_row (w : World) (x : UInt8) : (convert 34 9 (.slice (some ⟨w.heap.size, 0, none⟩) 1 1)).run Tryd.prog (w.alloc (.cells #[.int .u8 (byt x)] 5)) = .ok (.string (str [x])) (w.alloc (.cells #[.int .u8 (byt x)] 5))
    ∧ Below w.heap.size w (w.alloc (.cells #[.int .u8 (byt x)] 5)) := by
  obtain ⟨w1, hw1⟩ : ∃ x', x' = w.alloc (.cells #[.int .u8 (byt x)] 5) := ⟨_, rfl⟩
  have hblk : w1.heap[w.heap.size]? = some (.cells #[.int .u8 (byt x)] 5) := by rw [hw1]; exact heap_alloc_new w _
  have hrow : Row w.heap.size [x] w1 := by
    refine ⟨fun i z hi => ?_, fun i hi => by simp [World.frozen?, hblk]⟩
    rw [cell_of_row _ _ _ _ _ _ hblk]
    match i, hi with
    | 0, hi => simp at hi; subst hi; rfl
  have q := hrow.back (n := 1) (cap := 1) rfl
  have hb : Below w.heap.size w w1 := by rw [hw1]; exact (Below.refl _ _).alloc (Nat.le_refl _) _
  rw [← hw1]
  exact ⟨q, hb⟩

set_option maxRecDepth 100000 in
set_option maxHeartbeats 4000000 in
theorem refNormal_any (l : List UInt8) (w : World) (hl : l.length ≤ 1000) : Calls Tryd.prog 16 #[.string (str l)] w fun e w' => e = .returned (normalV l) ∧ Below w.heap.size w w' := by
  have i1 : ¬ (1000 : Int) < (l.length : Int) := by omega
  obtain ⟨N, hN⟩ : ∃ N, N = normL l := ⟨_, rfl⟩
  have hNl : N.length ≤ 3000 := by rw [hN]; have := normL_le l; omega
  obtain ⟨res, hres⟩ : ∃ res, res = normalV l := ⟨_, rfl⟩
  have HRES : Hid (res = if rightB N then .tuple #[.string (str N), .bool true] else .tuple #[.string (str []), .bool false]) := by rw [hres, hN]; exact Lib.hid rfl
  have HN0 : Hid (N = [] ++ normL (l.drop 0)) := Lib.hid hN
  rw [← hres]
  clear hres hN
  go_enter Tryd.func16, Tryd.ntmps16
  go_wp2_with fail
  go_loopw [4, 6] (fun s4 s6 wx => ∃ (k : Nat) (o : List UInt8), k ≤ l.length ∧ s6 = .int .i64 k ∧ s4 = .string (str o) ∧ Hid (N = o ++ normL (l.drop k)) ∧ Hid (Below w.heap.size w wx)) (fun _ i _ => l.length - (intOf i).toNat)
  case atStart => exact ⟨0, [], by omega, rfl, rfl, HN0, Lib.hid (Below.refl _ _)⟩
  case round =>
    clear HN0
    obtain ⟨k, o, hk, rfl, rfl, HN, HB⟩ := hrel
    have hol : o.length ≤ 3000 := by have := congrArg List.length HN.out; rw [List.length_append] at this; omega
    by_cases hlt : k < l.length
    · obtain ⟨d, hd⟩ : ∃ d, l[k]? = some d := ⟨l[k], List.getElem?_eq_getElem (by omega)⟩
      have e0 : ∀ h : k < l.length, l[k]'h = d := fun h => by rw [List.getElem?_eq_getElem h] at hd; exact Option.some.inj hd
      have hdr : l.drop k = d :: l.drop (k + 1) := by rw [← e0 (by omega)]; exact List.drop_eq_getElem_cons (by omega)
      have i2 : (k : Int) < (l.length : Int) := by omega
      have HT := Lib.hid (fun w => refTold_any l k w (by omega) (by omega))
      rw [hdr] at HT HN
      clear hd
      cases hv : toldV (d :: l.drop (k + 1)) with
      | some v =>
        have hlong := told_long hv
        simp only [List.length_cons, List.length_drop] at hlong
        have HNT : Hid (N = o ++ (normTok (.esc v) ++ normL (l.drop (k + 3)))) := by
          have := HN.out
          unfold normL at this
          rw [toks_esc hv, List.flatMap_cons, List.drop_drop, show k + 1 + 2 = k + 3 by omega] at this
          exact Lib.hid this
        rw [toldI_some hv] at HT
        have hv0 := byt_nonneg v; have hv1 := byt_lt v
        have hPv := Lib.hid (fun w => refPlain_any v w)
        clear hdr hv HN
        cases hp : plain v with
        | true =>
          have hnt : normTok (.esc v) = [v] := by rw [norm_esc, hp]; rfl
          rw [hnt] at HNT
          rw [hp] at hPv
          obtain ⟨q, hq⟩ := one_row wr v
          have HB2 := Lib.hid (below_step HB.out hq)
          clear hp hnt hq HB
          go_wp2_with fail
          refine (HT.out _).mono ?_
          rintro e w1 ⟨rfl, hww⟩
          subst hww
          go_wp2_with fail
          refine (hPv.out _).mono ?_
          rintro e w1 ⟨rfl, hww⟩
          subst hww
          go_wp2_with fail
          go_roundw
          case rel => exact ⟨k + 3, o ++ [v], by omega, by simp, rfl, by rw [HNT.out]; exact Lib.hid (by simp), HB2⟩
          case measure => simp [intOf]; omega
        | false =>
          have hnt : normTok (.esc v) = pct v := by rw [norm_esc, hp]; rfl
          rw [hnt] at HNT
          rw [hp] at hPv
          have k1 : 0 ≤ byt v / 16 := by omega
          have k2 : byt v / 16 < 16 := by omega
          have k3 : 0 ≤ byt v % 16 := by omega
          have k4 : byt v % 16 < 16 := by omega
          have t1 : (byt v / 16).toNat = v.toNat / 16 := by unfold byt; omega
          have t2 : (byt v % 16).toNat = v.toNat % 16 := by unfold byt; omega
          have e1 : ∀ h, (⟨#[48, 49, 50, 51, 52, 53, 54, 55, 56, 57, 65, 66, 67, 68, 69, 70]⟩ : ByteArray)[(byt v / 16).toNat]'h = hexd (v.toNat / 16) := fun h => by
            rw [hex_at _ (by omega), t1]
          have e2 : ∀ h, (⟨#[48, 49, 50, 51, 52, 53, 54, 55, 56, 57, 65, 66, 67, 68, 69, 70]⟩ : ByteArray)[(byt v % 16).toNat]'h = hexd (v.toNat % 16) := fun h => by
            rw [hex_at _ (by omega), t2]
          have hpc : pct v = [37, hexd (v.toNat / 16), hexd (v.toNat % 16)] := rfl
          rw [hpc] at HNT
          clear t1 t2 hpc
          have u1 : (byt v / 16) < ((⟨#[48, 49, 50, 51, 52, 53, 54, 55, 56, 57, 65, 66, 67, 68, 69, 70]⟩ : ByteArray).size : Int) := k2
          generalize hexd (v.toNat / 16) = x at *
          generalize hexd (v.toNat % 16) = y at *
          obtain ⟨q, hq⟩ := three_row wr x y
          have HB2 := Lib.hid (below_step HB.out hq)
          clear hp hnt hq HB
          go_wp2_with fail
          refine (HT.out _).mono ?_
          rintro e w1 ⟨rfl, hww⟩
          subst hww
          go_wp2_with fail
          refine (hPv.out _).mono ?_
          rintro e w1 ⟨rfl, hww⟩
          subst hww
          go_wp2_with fail
          go_region
          go_wp2_with fail
          go_roundw
          case rel => exact ⟨k + 3, o ++ [37, x, y], by omega, by simp, rfl, by rw [HNT.out]; exact Lib.hid (by simp), HB2⟩
          case measure => simp [intOf]; omega
      | none =>
        have HNT : Hid (N = o ++ (normTok (.raw d) ++ normL (l.drop (k + 1)))) := by
          have := HN.out
          unfold normL at this
          rw [toks_raw hv, List.flatMap_cons] at this
          exact Lib.hid this
        rw [toldI_none hv] at HT
        have hv0 := byt_nonneg d; have hv1 := byt_lt d
        have hSd := Lib.hid (fun w => refSign_any d w)
        clear hdr hv HN
        have hcut : (l.drop k).take 1 = [d] := by rw [List.drop_eq_getElem_cons hlt, e0 hlt]; rfl
        by_cases hs : sign d = true ∨ byt d = 47
        · have hnt : normTok (.raw d) = [d] := by
            rw [norm_raw]
            have : (sign d || decide (byt d = 47)) = true := by
              rcases hs with h | h
              · rw [h]; rfl
              · rw [decide_eq_true h, Bool.or_true]
            rw [this]; rfl
          rw [hnt] at HNT
          have hcut2 : (str l).extract k (k + 1) = str [d] := by rw [str_cut, show k + 1 - k = 1 by omega, hcut]
          have i3 : (k : Int) + 1 ≤ (l.length : Int) := by omega
          have i4 : ((k : Int) + 1).toNat = k + 1 := by omega
          clear hnt hcut
          cases hsd : sign d with
          | true =>
            rw [hsd] at hSd
            clear hs hsd
            go_wp2_with fail
            refine (HT.out _).mono ?_
            rintro e w1 ⟨rfl, hww⟩
            subst hww
            go_wp2_with fail
            refine (hSd.out _).mono ?_
            rintro e w1 ⟨rfl, hww⟩
            subst hww
            go_wp2_with fail
            go_roundw
            case rel => exact ⟨k + 1, o ++ [d], by omega, by simp, rfl, by rw [HNT.out]; exact Lib.hid (by simp), HB⟩
            case measure => simp [intOf]; omega
          | false =>
            rw [hsd] at hSd
            have h47 : byt d = 47 := by
              rcases hs with h | h
              · rw [hsd] at h; cases h
              · exact h
            have h48 : (byt d == 47) = true := by rw [h47]; rfl
            clear hs hsd h47
            go_wp2_with fail
            refine (HT.out _).mono ?_
            rintro e w1 ⟨rfl, hww⟩
            subst hww
            go_wp2_with fail
            refine (hSd.out _).mono ?_
            rintro e w1 ⟨rfl, hww⟩
            subst hww
            go_wp2_with fail
            go_roundw
            case rel => exact ⟨k + 1, o ++ [d], by omega, by simp, rfl, by rw [HNT.out]; exact Lib.hid (by simp), HB⟩
            case measure => simp [intOf]; omega
        · have hsd : sign d = false := by
            cases h : sign d with
            | false => rfl
            | true => exact absurd (.inl h) hs
          have h47 : ¬ byt d = 47 := fun h => hs (.inr h)
          have hnt : normTok (.raw d) = pct d := by
            rw [norm_raw, hsd, decide_eq_false h47]; rfl
          rw [hnt] at HNT
          rw [hsd] at hSd
          have h48 : (byt d == 47) = false := beq_eq_false_iff_ne.2 h47
          have k1 : 0 ≤ byt d / 16 := by omega
          have k2 : byt d / 16 < 16 := by omega
          have k3 : 0 ≤ byt d % 16 := by omega
          have k4 : byt d % 16 < 16 := by omega
          have t1 : (byt d / 16).toNat = d.toNat / 16 := by unfold byt; omega
          have t2 : (byt d % 16).toNat = d.toNat % 16 := by unfold byt; omega
          have e1 : ∀ h, (⟨#[48, 49, 50, 51, 52, 53, 54, 55, 56, 57, 65, 66, 67, 68, 69, 70]⟩ : ByteArray)[(byt d / 16).toNat]'h = hexd (d.toNat / 16) := fun h => by
            rw [hex_at _ (by omega), t1]
          have e2 : ∀ h, (⟨#[48, 49, 50, 51, 52, 53, 54, 55, 56, 57, 65, 66, 67, 68, 69, 70]⟩ : ByteArray)[(byt d % 16).toNat]'h = hexd (d.toNat % 16) := fun h => by
            rw [hex_at _ (by omega), t2]
          have hpc : pct d = [37, hexd (d.toNat / 16), hexd (d.toNat % 16)] := rfl
          rw [hpc] at HNT
          clear t1 t2 hpc
          have u1 : (byt d / 16) < ((⟨#[48, 49, 50, 51, 52, 53, 54, 55, 56, 57, 65, 66, 67, 68, 69, 70]⟩ : ByteArray).size : Int) := k2
          generalize hexd (d.toNat / 16) = x at *
          generalize hexd (d.toNat % 16) = y at *
          obtain ⟨q, hq⟩ := three_row wr x y
          have HB2 := Lib.hid (below_step HB.out hq)
          clear hs hnt hq HB hcut hsd h47
          go_wp2_with fail
          refine (HT.out _).mono ?_
          rintro e w1 ⟨rfl, hww⟩
          subst hww
          go_wp2_with fail
          refine (hSd.out _).mono ?_
          rintro e w1 ⟨rfl, hww⟩
          subst hww
          go_wp2_with fail
          go_region
          go_wp2_with fail
          go_roundw
          case rel => exact ⟨k + 1, o ++ [37, x, y], by omega, by simp, rfl, by rw [HNT.out]; exact Lib.hid (by simp), HB2⟩
          case measure => simp [intOf]; omega
    · have hk2 : ¬ (k : Int) < (l.length : Int) := by omega
      have hoN : N = o := by rw [HN.out, List.drop_eq_nil_of_le (by omega)]; simp [normL, toks_nil]
      have HRT := Lib.hid (fun w => refRight_any o w (by omega))
      rw [hoN] at HRES
      clear HN hoN hNl
      cases hr : rightB o with
      | false =>
        rw [hr] at HRT HRES
        have hres : res = .tuple #[.string (str []), .bool false] := HRES.out
        subst hres
        clear HRES hr
        go_wp2_with fail
        refine (HRT.out _).mono ?_
        rintro e w1 ⟨rfl, hww⟩
        subst hww
        go_wp2_with fail
        go_ret2
        exact ⟨rfl, HB.out⟩
      | true =>
        rw [hr] at HRT HRES
        have hres : res = .tuple #[.string (str o), .bool true] := HRES.out
        subst hres
        clear HRES hr
        go_wp2_with fail
        refine (HRT.out _).mono ?_
        rintro e w1 ⟨rfl, hww⟩
        subst hww
        go_wp2_with fail
        go_ret2
        exact ⟨rfl, HB.out⟩
end Go.Proofs.YthedhominhgeaaaDoor
