/- Fields from a place on: what the call computes. -/
import Derived.Test.YtgapahmjcladlaaReadL
import Derived.BigQuiet
namespace Go.Proofs.Ytgapahmjcladlaa
open Go.RowKit
set_option linter.unusedVariables false

theorem read_out (a : Option Addr) (n cap : Nat) (p : Int) (ka : Option Addr) (m mc : Nat) (hn : n ≤ 1099511627776) (h : ¬ (0 ≤ p ∧ p ≤ n)) (w : World) :
    Calls Try.prog 8 #[.slice a n cap, .int .i64 p, .slice ka m mc] w fun e w' => e = .returned (.tuple #[.slice none 0 0, .int .i64 0, .bool false]) ∧ Below w.heap.size w w' := by
  by_cases h0 : p < 0
  · clear h
    go_enter Try.func8, Try.ntmps8
    go_wp2_with fail
    refine bodyPost_ret (v := .tuple #[.slice none 0 0, .int .i64 0, .bool false]) (by simp [results, Try.f8, go_sem]) rfl ⟨rfl, (Below.refl _ _).alloc (Nat.le_refl _) _⟩
  · have h1 : (n : Int) < p := by omega
    clear h
    go_enter Try.func8, Try.ntmps8
    go_wp2_with fail
    refine bodyPost_ret (v := .tuple #[.slice none 0 0, .int .i64 0, .bool false]) (by simp [results, Try.f8, go_sem]) rfl ⟨rfl, (Below.refl _ _).alloc (Nat.le_refl _) _⟩

set_option maxRecDepth 100000 in
set_option maxHeartbeats 2000000 in
theorem read_in (a : Option Addr) (n cap p : Nat) (ka : Option Addr) (m mc : Nat) (bs : List UInt8) (ks : List Int) (hl : bs.length = n) (hn : n ≤ 1099511627776) (hcap : n ≤ cap) (hnil : a = none → n = 0 ∧ cap = 0) (hp : p ≤ n) (hkl : ks.length = m) (hm : m ≤ 1099511627776) (w : World) (hb : Bytes w a bs) (hk : Ints w ka ks) :
    Calls Try.prog 8 #[.slice a n cap, .int .i64 p, .slice ka m mc] w fun e w' => Below w.heap.size w w' ∧ match readAll bs (cnt ks) p [] ks with
      | some (fs, q) => ∃ lv, e = .returned (.tuple #[lv, .int .i64 q, .bool true]) ∧ OwnF 0 w' w.heap.size 39 lv fs
      | none => e = .returned (.tuple #[.slice none 0 0, .int .i64 0, .bool false]) := by
  have h0 : ¬ (p : Int) < 0 := by omega
  have h1 : ¬ (n : Int) < (p : Int) := by omega
  have HL := Lib.hid hl; have HB := Lib.hid hb; have HK := Lib.hid hk; have HN := Lib.hid hnil; have HKL := Lib.hid hkl
  clear hl hb hk hnil hkl
  obtain ⟨res, hres⟩ : ∃ res, readAll bs (cnt ks) p [] ks = res := ⟨_, rfl⟩
  rw [hres]
  have HRES := Lib.hid hres
  clear hres
  go_enter Try.func8, Try.ntmps8
  go_wp2_with fail
  have hblk := alloc_at w (Obj.cells #[Value.slice a n cap, Value.int IntKind.i64 p, Value.slice none 0 0, Value.int IntKind.i64 0] 52)
  have hbl : Below w.heap.size w (w.alloc (Obj.cells #[Value.slice a n cap, Value.int IntKind.i64 p, Value.slice none 0 0, Value.int IntKind.i64 0] 52)) := (Below.refl _ _).alloc (Nat.le_refl _) _
  have HR1 : Hid (Rd (w.alloc (Obj.cells #[Value.slice a n cap, Value.int IntKind.i64 p, Value.slice none 0 0, Value.int IntKind.i64 0] 52)) w.heap.size a n cap p (.slice none 0 0) 0) := Lib.hid ⟨hblk, _, _, _, rfl⟩
  obtain ⟨w1, hw1⟩ : ∃ x, x = w.alloc (Obj.cells #[Value.slice a n cap, Value.int IntKind.i64 p, Value.slice none 0 0, Value.int IntKind.i64 0] 52) := ⟨_, rfl⟩
  rw [← hw1] at hblk hbl HR1 ⊢
  obtain ⟨R, hR⟩ : ∃ R, R = w.heap.size := ⟨_, rfl⟩
  rw [← hR] at HR1 ⊢
  have HBL := Lib.hid hbl; have HRE := Lib.hid hR
  clear hblk hbl hw1 hR
  go_loopw [29] (fun i wr => ∃ (k : Nat), k ≤ m ∧ i = .int .i64 k ∧ Hid (Rd wr R a n cap p (.slice none 0 0) (cnt (ks.take k))) ∧ Hid (Below w.heap.size w wr)) (fun i _ => m - (intOf i).toNat)
  case atStart => exact ⟨0, by omega, rfl, HR1, HBL⟩
  case round =>
    obtain ⟨k, hk, rfl, HR, HBW⟩ := hrel
    by_cases hlt : k < m
    · obtain ⟨kb, ko, x, rfl, hx, hc⟩ := (HK.out.below HBW.out).at (i := k) (by rw [HKL.out]; exact hlt)
      have i2 : (k : Int) < (m : Int) := by omega
      have c3 := HR.out.c3
      have z3 := frozen_blk HR.out.blk 3
      have HCT := Lib.hid (cnt_take hx)
      have hcl : cnt (ks.take k) ≤ 1099511627776 := by
        have := cnt_le (ks.take k); rw [List.length_take] at this; omega
      by_cases h2 : x = 2
      · subst h2
        have HR2 : Hid (Rd (wr.setCell ⟨R, 3, none⟩ (.int .i64 ((cnt (ks.take k) : Int) + 1))) R a n cap p (.slice none 0 0) (cnt (ks.take (k + 1)))) := by
          rw [HCT.out, if_pos rfl]
          exact Lib.hid (HR.out.count (cnt (ks.take k) + 1))
        have HB2 : Hid (Below w.heap.size w (wr.setCell ⟨R, 3, none⟩ (.int .i64 ((cnt (ks.take k) : Int) + 1)))) := Lib.hid (below_set_R HBW.out (by rw [HRE.out]; exact Nat.le_refl _))
        clear hx HCT
        generalize cnt (ks.take k) = M at *
        go_wp2_with fail
        go_roundw
        case rel => exact ⟨k + 1, by omega, by simp, HR2, HB2⟩
        case measure => simp [intOf]; omega
      · have HR2 : Hid (Rd wr R a n cap p (.slice none 0 0) (cnt (ks.take (k + 1)))) := by
          rw [HCT.out, if_neg h2]
          exact HR
        clear hx HCT
        generalize cnt (ks.take k) = M at *
        go_wp2_with fail
        go_roundw
        case rel => exact ⟨k + 1, by omega, by simp, HR2, HBW⟩
        case measure => simp [intOf]; omega
    · have hkm : k = m := by omega
      have hkt : ks.take k = ks := by rw [hkm, ← HKL.out, List.take_length]
      rw [hkt] at HR
      clear hkt hkm
      go_wp2_with fail
      obtain ⟨M, hM⟩ : ∃ M, M = cnt ks := ⟨_, rfl⟩
      have HMP : Hid (∀ i : Nat, ks[i]? = some 2 → 1 ≤ M) := Lib.hid (fun i h => by rw [hM]; exact cnt_pos h)
      have hMm : M ≤ 1099511627776 := by have := cnt_le ks; rw [HKL.out] at this; omega
      rw [← hM] at HR HRES
      clear hM
      go_loopw [42] (fun i wx => ∃ (j q : Nat) (fs : List Fl) (lv : Value), j ≤ m ∧ q ≤ n ∧ i = .int .i64 j ∧ Hid (fs.length = j) ∧ Hid (Rd wx R a n cap q lv M) ∧ Hid (OwnF 0 wx w.heap.size 39 lv fs) ∧ Hid (readAll bs M q fs (ks.drop j) = res) ∧ Hid (Below w.heap.size w wx)) (fun i _ => m - (intOf i).toNat)
      case atStart => exact ⟨0, p, [], _, by omega, hp, rfl, Lib.hid rfl, HR, Lib.hid (OwnF.nil _ _ _ _), HRES, HBW⟩
      case round =>
        clear HR HRES HBW
        obtain ⟨j, q, fs, lv, hj, hq, rfl, HLE, HR, HO, HRES, HBW⟩ := hrel
        by_cases hlt2 : j < m
        · obtain ⟨kb, ko, x, rfl, hx, hc⟩ := (HK.out.below HBW.out).at (i := j) (by rw [HKL.out]; exact hlt2)
          have i2 : (j : Int) < (m : Int) := by omega
          have HF := Lib.hid (field_any x bs wr HR.out HL.out hn hcap HN.out hq (HB.out.below HBW.out) HO.out (by rw [HLE.out]; omega) (fun h => HMP.out j (by rw [hx, h])) hMm)
          have hd := HRES.out
          rw [drop_at hx] at hd
          have HD : Hid ((match readOne bs q fs M x with | some (f, q2) => readAll bs M q2 (fs ++ [f]) (ks.drop (j + 1)) | none => none) = res) := Lib.hid hd
          clear hx hd HRES
          go_wp2_with fail
          refine HF.out.mono ?_
          rintro e w2 ⟨hg, hm2⟩
          have HB2 : Hid (Below w.heap.size w w2) := Lib.hid (HBW.out.trans (below_grownR hg (by rw [HRE.out]; exact Nat.le_refl _) HBW.out.size))
          cases hro : readOne bs q fs M x with
          | none =>
            rw [hro] at hm2 HD
            obtain ⟨mm, rfl⟩ := hm2
            have hres : res = none := HD.out.symm
            subst hres
            clear hg hro HD HF
            go_wp2_with fail
            refine bodyPost_ret (v := .tuple #[.slice none 0 0, .int .i64 0, .bool false]) (by simp [results, Try.f8, go_sem]) rfl ⟨HB2.out.alloc HB2.out.size _, rfl⟩
          | some fq =>
            obtain ⟨f, q2⟩ := fq
            rw [hro] at hm2 HD
            obtain ⟨hfk, hq2, v, rfl, hv, hR2⟩ := hm2
            subst hfk
            obtain ⟨ad, al, ac, rfl⟩ := hv.is
            have HRT : Hid (readAll bs M q2 (fs ++ [f]) (ks.drop (j + 1)) = res) := HD
            have hO2 : OwnF 0 w2 w.heap.size 39 lv fs := HO.out.keep hg HR.out.blk (by decide) (HR.out.noB (Nat.zero_le _))
            obtain ⟨ao, lc, hlv, _, _⟩ := hO2.form
            rw [HLE.out] at hlv
            subst hlv
            have hB4 : Below w2.heap.size w2 ((w2.alloc (.cells #[.int .i64 f.kind, .int .i64 f.n, .slice ad al ac] 39)).alloc (.cells #[.int .i64 f.kind, .int .i64 f.n, .slice ad al ac] 39)) := ((Below.refl _ _).alloc (Nat.le_refl _) _).alloc (by rw [World.size_alloc]; omega) _
            have HO4 := Lib.hid (hO2.below hB4)
            have HV4 := Lib.hid (hv.below hB4)
            have HR4 := Lib.hid (hR2.below hB4)
            have HB4 : Hid (Below w.heap.size w ((w2.alloc (.cells #[.int .i64 f.kind, .int .i64 f.n, .slice ad al ac] 39)).alloc (.cells #[.int .i64 f.kind, .int .i64 f.n, .slice ad al ac] 39))) := Lib.hid (HB2.out.trans (hB4.mono HB2.out.size))
            have hbk := alloc_at (w2.alloc (.cells #[.int .i64 f.kind, .int .i64 f.n, .slice ad al ac] 39)) (.cells #[.int .i64 f.kind, .int .i64 f.n, .slice ad al ac] 39)
            rw [World.size_alloc] at hbk
            have HBK := Lib.hid hbk
            have HLN : Hid (fs.length + 1 ≤ 1099511627776) := Lib.hid (by rw [HLE.out]; omega)
            have hRlt : ¬ w2.heap.size = R := by have := (Array.getElem?_eq_some_iff.1 hR2.blk).1; omega
            have hRlt2 : ¬ w2.heap.size + 1 = R := by have := (Array.getElem?_eq_some_iff.1 hR2.blk).1; omega
            have r2 := (hR2.below ((Below.refl w2.heap.size w2).alloc (Nat.le_refl _) (.cells #[.int .i64 f.kind, .int .i64 f.n, .slice ad al ac] 39))).c2
            have hRlt3 : R < w2.heap.size := by have := (Array.getElem?_eq_some_iff.1 hR2.blk).1; omega
            clear hg hro HD HF hO2 hv hR2 hB4 hbk HR HO HBW
            go_wp2_with (at_builtin; go_loud (refine wpList_append_fld 0 rfl (.tmp 54) (.tmp 56) 27 39 rfl Try.underlying27 (by decide) info39 w.heap.size (Nat.zero_le _) _ fs f (w2.heap.size + 1) 1 (.slice ad al ac) rfl HO4.out rfl (cell_blk HBK.out 0 rfl) (cell_blk HBK.out 1 rfl) (cell_blk HBK.out 2 rfl) HV4.out HLN.out HB4.out.size ?_))
            rintro v5 w5 hO5 hg5 hb5
            have hR5 : Rd w5 R a n cap q2 _ M := HR4.out.app HO4.out hg5
            obtain ⟨ao5, lc5, hlv5, _, _⟩ := hO5.form
            obtain ⟨k5, hk5⟩ : ∃ k5, k5 = (fs ++ [f]).length := ⟨_, rfl⟩
            rw [← hk5] at hlv5
            subst hlv5
            have z5 := frozen_blk hR5.blk 2
            have r5 := hR5.c2
            have HR6 := Lib.hid (hR5.list (.slice ao5 k5 lc5) ⟨_, _, _, rfl⟩)
            have HO6 := Lib.hid (hO5.keep (grown_set_R (R := R) (i := 2) (u := .slice ao5 k5 lc5) (World.grownBy.refl w5 _)) hR5.blk (by decide) (hR5.noB (Nat.zero_le _)))
            have HB6 : Hid (Below w.heap.size w (w5.setCell ⟨R, 2, none⟩ (.slice ao5 k5 lc5))) := Lib.hid (below_set_R (HB4.out.trans hb5) (by rw [HRE.out]; exact Nat.le_refl _))
            clear hO5 hg5 hb5 hR5 hk5 HR4 HO4 HV4 HB4 HBK
            go_wp2_with fail
            go_roundw
            case rel => exact ⟨j + 1, q2, fs ++ [f], _, by omega, by omega, by simp, Lib.hid (by rw [List.length_append, HLE.out]; rfl), HR6, HO6, HRT, HB6⟩
            case measure => simp [intOf]; omega
        · have hjm : j = m := by omega
          have hd := HRES.out
          rw [hjm, ← HKL.out, List.drop_length] at hd
          have hres : res = some (fs, q) := hd.symm
          subst hres
          have c1 := HR.out.c1; have c2 := HR.out.c2
          clear hd hjm HRES
          go_wp2_with fail
          go_quiet (fail)
          go_wp2_with fail
          refine bodyPost_ret (v := .tuple #[lv, .int .i64 q, .bool true]) (by simp [results, Try.f8, go_sem]) rfl ⟨Below.drewN HBW.out _, lv, rfl, HO.out.below (Below.drewN (Below.refl _ _) _)⟩
theorem read_any (a : Option Addr) (n cap : Nat) (p : Int) (ka : Option Addr) (m mc : Nat) (bs : List UInt8) (ks : List Int) (hl : bs.length = n) (hn : n ≤ 1099511627776) (hcap : n ≤ cap) (hnil : a = none → n = 0 ∧ cap = 0) (hkl : ks.length = m) (hm : m ≤ 1099511627776) (w : World) (hb : Bytes w a bs) (hk : Ints w ka ks) :
    Calls Try.prog 8 #[.slice a n cap, .int .i64 p, .slice ka m mc] w fun e w' => Below w.heap.size w w' ∧ match readV bs p ks with
      | some (fs, q) => ∃ lv, e = .returned (.tuple #[lv, .int .i64 q, .bool true]) ∧ OwnF 0 w' w.heap.size 39 lv fs
      | none => e = .returned (.tuple #[.slice none 0 0, .int .i64 0, .bool false]) := by
  unfold readV
  by_cases h : 0 ≤ p ∧ p ≤ bs.length
  · rw [if_pos h]
    obtain ⟨q, rfl⟩ : ∃ q : Nat, p = q := ⟨p.toNat, by omega⟩
    exact read_in a n cap q ka m mc bs ks hl hn hcap hnil (by omega) hkl hm w hb hk
  · rw [if_neg h]
    refine (read_out a n cap p ka m mc hn (by rw [← hl]; exact h) w).mono ?_
    rintro e w' ⟨h1, h2⟩
    exact ⟨h2, h1⟩
end Go.Proofs.Ytgapahmjcladlaa
