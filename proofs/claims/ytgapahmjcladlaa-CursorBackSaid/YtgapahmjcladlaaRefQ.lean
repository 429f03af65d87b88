/- The document's reading of fields: what the call computes. Printed by cursor_refq.py. -/
import Derived.Test.YtgapahmjcladlaaRefR
import Derived.Deep.CutBlock
namespace Go.Proofs.Ytgapahmjcladlaa
open Go.RowKit
set_option linter.unusedVariables false

theorem OwnF.lit (L : Nat) (w : World) (e : Nat) : OwnF L (w.alloc (.cells #[] e)) w.heap.size e (.slice (some ⟨w.heap.size, 0, none⟩) 0 0) [] := by
  have := World.ownsRow_lit (e := e) (size := 3) w #[] 0 (Nat.le_refl _) (by unfold maxLen; omega) rfl
  exact ⟨[], this, ⟨rfl, fun i f h => by simp at h⟩, fun u h => by simp at h⟩
theorem Bv.empty {L : Nat} {w : World} {ad : Option Addr} {c : Nat} {bs : List UInt8} (h : bs = []) (hn : ad = none → c = 0) : Bv L w (.slice ad 0 c) bs := by
  subst h
  exact ⟨ad, c, rfl, Nat.zero_le _, hn, .inl rfl, fun x h => absurd rfl h⟩
theorem Bv.part {L : Nat} {w : World} {b o q k c : Nat} {bs : List UInt8} (h : ∀ i c, bs[i]? = some c → w.cell? ⟨b, o + i, none⟩ = some (.int .u8 (byt c))) (hL : bs ≠ [] → b < L) (h1 : q + k ≤ bs.length) (h2 : k ≤ c) : Bv L w (.slice (some ⟨b, o + q, none⟩) k c) ((bs.drop q).take k) := by
  have hl : ((bs.drop q).take k).length = k := by rw [List.length_take, List.length_drop]; omega
  refine ⟨some ⟨b, o + q, none⟩, c, by rw [hl], by rw [hl]; exact h2, fun h => (by cases h), (Bytes.drop h q).take k, fun x hne hx => ?_⟩
  injection hx with hx
  subst hx
  exact .inl (hL (fun e => hne (by rw [e]; simp)))
theorem read_0_yes (bs : List UInt8) (q : Nat) (fs : List Fl) (M : Nat) (h : q + 2 ≤ bs.length) : readOne bs q fs M 0 = some (⟨0, numV bs (q : Int) 2, []⟩, q + 2) := by
  unfold readOne numV; rw [if_pos rfl, if_pos h, if_pos ((fits_p _ _ _).2 h)]; rfl
theorem read_0_no (bs : List UInt8) (q : Nat) (fs : List Fl) (M : Nat) (h : ¬ q + 2 ≤ bs.length) : readOne bs q fs M 0 = none := by
  unfold readOne; rw [if_pos rfl, if_neg h]
theorem read_1_yes (bs : List UInt8) (q : Nat) (fs : List Fl) (M : Nat) (h : q + 4 ≤ bs.length) : readOne bs q fs M 1 = some (⟨1, numV bs (q : Int) 4, []⟩, q + 4) := by
  unfold readOne numV; rw [if_neg (by decide), if_pos rfl, if_pos h, if_pos ((fits_p _ _ _).2 h)]; rfl
theorem read_1_no (bs : List UInt8) (q : Nat) (fs : List Fl) (M : Nat) (h : ¬ q + 4 ≤ bs.length) : readOne bs q fs M 1 = none := by
  unfold readOne; rw [if_neg (by decide), if_pos rfl, if_neg h]
theorem read_2 (bs : List UInt8) (q : Nat) (fs : List Fl) (M : Nat) : readOne bs q fs M 2 = match told fs M with | some k => (if q + k ≤ bs.length then some (⟨2, 0, (bs.drop q).take k⟩, q + k) else none) | none => none := by
  unfold readOne; rw [if_neg (by decide), if_neg (by decide), if_pos rfl]; rfl
theorem read_2_short (bs : List UInt8) (q : Nat) (fs : List Fl) (M : Nat) (h : ¬ M ≤ fs.length) : readOne bs q fs M 2 = none := by
  rw [read_2]; unfold told; rw [if_neg h]
theorem told_at {fs : List Fl} {M t : Nat} {f : Fl} (h : fs.length = M + t) (hf : fs[t]? = some f) : told fs M = if f.kind ≤ 1 then some f.n else none := by
  unfold told
  rw [if_pos (by omega), show fs.length - M = t by omega, hf]
theorem read_2_kind (bs : List UInt8) (q : Nat) {fs : List Fl} {M t : Nat} {f : Fl} (h : fs.length = M + t) (hf : fs[t]? = some f) (hk : ¬ f.kind ≤ 1) : readOne bs q fs M 2 = none := by
  rw [read_2, told_at h hf, if_neg hk]
theorem read_2_no (bs : List UInt8) (q : Nat) {fs : List Fl} {M t : Nat} {f : Fl} (h : fs.length = M + t) (hf : fs[t]? = some f) (hk : f.kind ≤ 1) (hr : ¬ q + f.n ≤ bs.length) : readOne bs q fs M 2 = none := by
  rw [read_2, told_at h hf, if_pos hk]; exact if_neg hr
theorem read_2_yes (bs : List UInt8) (q : Nat) {fs : List Fl} {M t : Nat} {f : Fl} (h : fs.length = M + t) (hf : fs[t]? = some f) (hk : f.kind ≤ 1) (hr : q + f.n ≤ bs.length) : readOne bs q fs M 2 = some (⟨2, 0, (bs.drop q).take f.n⟩, q + f.n) := by
  rw [read_2, told_at h hf, if_pos hk]; exact if_pos hr
theorem read_3 (bs : List UInt8) (q : Nat) (fs : List Fl) (M z : Nat) (h : bs.length = q + z) : readOne bs q fs M 3 = some (⟨3, 0, (bs.drop q).take z⟩, q + z) := by
  unfold readOne; rw [if_neg (by decide), if_neg (by decide), if_neg (by decide), if_pos rfl, show bs.length - q = z by omega]
theorem read_x (bs : List UInt8) (q : Nat) (fs : List Fl) (M : Nat) {x : Int} (h0 : ¬ x = 0) (h1 : ¬ x = 1) (h2 : ¬ x = 2) (h3 : ¬ x = 3) : readOne bs q fs M x = none := by
  unfold readOne; rw [if_neg h0, if_neg h1, if_neg h2, if_neg h3]

theorem refRead_out (a : Option Addr) (n cap : Nat) (p : Int) (ka : Option Addr) (m mc : Nat) (hn : n ≤ 1099511627776) (h : ¬ (0 ≤ p ∧ p ≤ n)) (w : World) :
    Calls Try.prog 9 #[.slice a n cap, .int .i64 p, .slice ka m mc] w fun e w' => e = .returned (.tuple #[.slice none 0 0, .int .i64 0, .bool false]) ∧ Below w.heap.size w w' := by
  by_cases h0 : p < 0
  · clear h
    go_enter Try.func9, Try.ntmps9
    go_wp2_with fail
    refine bodyPost_ret (v := .tuple #[.slice none 0 0, .int .i64 0, .bool false]) (by simp [results, Try.f9, go_sem]) rfl ⟨rfl, (Below.refl _ _).alloc (Nat.le_refl _) _⟩
  · have h1 : (n : Int) < p := by omega
    clear h
    go_enter Try.func9, Try.ntmps9
    go_wp2_with fail
    refine bodyPost_ret (v := .tuple #[.slice none 0 0, .int .i64 0, .bool false]) (by simp [results, Try.f9, go_sem]) rfl ⟨rfl, (Below.refl _ _).alloc (Nat.le_refl _) _⟩

set_option maxRecDepth 100000 in
set_option maxHeartbeats 4000000 in
theorem refRead_in (a : Option Addr) (n cap p : Nat) (ka : Option Addr) (m mc : Nat) (bs : List UInt8) (ks : List Int) (hl : bs.length = n) (hn : n ≤ 1099511627776) (hcap : n ≤ cap) (hnil : a = none → n = 0 ∧ cap = 0) (hp : p ≤ n) (hkl : ks.length = m) (hm : m ≤ 1099511627776) (w : World) (hb : Bytes w a bs) (hk : Ints w ka ks) :
    Calls Try.prog 9 #[.slice a n cap, .int .i64 p, .slice ka m mc] w fun e w' => Below w.heap.size w w' ∧ match readAll bs (cnt ks) p [] ks with
      | some (fs, q) => ∃ lv, e = .returned (.tuple #[lv, .int .i64 q, .bool true]) ∧ OwnF w.heap.size w' w.heap.size 56 lv fs
      | none => e = .returned (.tuple #[.slice none 0 0, .int .i64 0, .bool false]) := by
  have h0 : ¬ (p : Int) < 0 := by omega
  have h1 : ¬ (n : Int) < (p : Int) := by omega
  have HL := Lib.hid hl; have HB := Lib.hid hb; have HK := Lib.hid hk; have HN := Lib.hid hnil; have HKL := Lib.hid hkl
  clear hl hb hk hnil hkl
  obtain ⟨res, hres⟩ : ∃ res, readAll bs (cnt ks) p [] ks = res := ⟨_, rfl⟩
  rw [hres]
  have HRES := Lib.hid hres
  clear hres
  go_enter Try.func9, Try.ntmps9
  go_wp2_with fail
  have hbl : Below w.heap.size w (w.alloc (.cells #[] 56)) := (Below.refl _ _).alloc (Nat.le_refl _) _
  have HO := Lib.hid (OwnF.lit w.heap.size w 56)
  obtain ⟨w1, hw1⟩ : ∃ x, x = w.alloc (.cells #[] 56) := ⟨_, rfl⟩
  rw [← hw1] at hbl HO ⊢
  have HBL := Lib.hid hbl
  clear hbl hw1
  obtain ⟨M, hM⟩ : ∃ M, M = cnt ks := ⟨_, rfl⟩
  have HMP : Hid (∀ i : Nat, ks[i]? = some 2 → 1 ≤ M) := Lib.hid (fun i h => by rw [hM]; exact cnt_pos h)
  have hMm : M ≤ 1099511627776 := by have := cnt_le ks; rw [HKL.out] at this; omega
  rw [← hM] at HRES
  have HAL : Hid (∀ w' : World, Below w.heap.size w w' → Calls Try.prog 21 #[.slice ka m mc] w' fun e w'' => e = .returned (.int .i64 (M : Nat)) ∧ w'' = w') := Lib.hid (fun w' h => by rw [hM]; exact refAll_any ka m mc ks HKL.out hm w' (HK.out.below h))
  clear hM h0 h1
  go_loopw [1, 9, 10] (fun s1 s9 s10 wx => ∃ (j q : Nat) (fs : List Fl), j ≤ m ∧ q ≤ n ∧ s1 = .int .i64 q ∧ s10 = .int .i64 j ∧ Hid (fs.length = j) ∧ Hid (OwnF w.heap.size wx w.heap.size 56 s9 fs) ∧ Hid (readAll bs M q fs (ks.drop j) = res) ∧ Hid (Below w.heap.size w wx)) (fun _ _ i _ => m - (intOf i).toNat)
  case atStart => exact ⟨0, p, [], by omega, hp, rfl, rfl, Lib.hid rfl, HO, HRES, HBL⟩
  case round =>
    clear HO HRES HBL
    obtain ⟨j, q, fs, hj, hq, rfl, rfl, HLE, HO, HRES, HBW⟩ := hrel
    obtain ⟨ao, ac, hv, _, _⟩ := HO.out.form
    rw [HLE.out] at hv
    subst hv
    by_cases hlt : j < m
    · obtain ⟨kb, ko, x, rfl, hx, hc⟩ := (HK.out.below HBW.out).at (i := j) (by rw [HKL.out]; exact hlt)
      have i2 : (j : Int) < (m : Int) := by omega
      have hd := HRES.out
      rw [drop_at hx] at hd
      have HD : Hid ((match readOne bs q fs M x with | some (f, q2) => readAll bs M q2 (fs ++ [f]) (ks.drop (j + 1)) | none => none) = res) := Lib.hid hd
      have HX := Lib.hid hx
      clear hx hd HRES
      have HY := Lib.hid (HB.out.below HBW.out)
      have hcA : ∀ o, (wr.alloc o).cell? ⟨kb, ko + j, none⟩ = some (.int .i64 x) := fun o => cell_at ((Below.refl _ _).alloc (Nat.le_refl _) o) hc
      by_cases k0 : x = 0
      · subst k0
        have HC := Lib.hid (fun w' (hb' : Below wr.heap.size wr w') => refNumber_any a n cap q 2 (.inl rfl) bs HL.out hn w' (HY.out.below hb'))
        by_cases hf : fits n (q : Int) ((2 : Nat) : Int)
        · rw [decide_eq_true hf] at HC
          have hq2 : q + 2 ≤ n := (fits_p _ _ _).1 hf
          rw [read_0_yes bs q fs M (by rw [HL.out]; exact hq2)] at HD
          clear hf
          go_wp2_with fail
          refine (HC.out _ ((Below.refl _ _).alloc (Nat.le_refl _) _)).mono ?_
          rintro e w2 ⟨rfl, hww⟩
          rw [hww]
          clear hww w2 HC
          have hB2 : Below wr.heap.size wr ((wr.alloc (.cells #[.int .i64 0, .int .i64 (numV bs (q : Int) 2), .slice none 0 0] 56)).alloc (.cells #[.int .i64 0, .int .i64 (numV bs (q : Int) 2), .slice none 0 0] 56)) := ((Below.refl _ _).alloc (Nat.le_refl _) _).alloc (by rw [World.size_alloc]; omega) _
          have HO2 := Lib.hid (HO.out.below hB2)
          have HB2 := Lib.hid (below_step HBW.out hB2)
          have HV2 : Hid (Bv w.heap.size ((wr.alloc (.cells #[.int .i64 0, .int .i64 (numV bs (q : Int) 2), .slice none 0 0] 56)).alloc (.cells #[.int .i64 0, .int .i64 (numV bs (q : Int) 2), .slice none 0 0] 56)) (.slice none 0 0) ((⟨0, numV bs (q : Int) 2, []⟩ : Fl)).b) := Lib.hid (Bv.below (Bv.nil _ _) hB2)
          have hbk := alloc_at (wr.alloc (.cells #[.int .i64 0, .int .i64 (numV bs (q : Int) 2), .slice none 0 0] 56)) (.cells #[.int .i64 0, .int .i64 (numV bs (q : Int) 2), .slice none 0 0] 56)
          rw [World.size_alloc] at hbk
          have HBK := Lib.hid hbk
          have HLN : Hid (fs.length + 1 ≤ 1099511627776) := Lib.hid (by rw [HLE.out]; omega)
          clear hB2 hbk HO HBW
          go_wp2_with (at_builtin; go_loud (refine wpList_append_fld w.heap.size rfl (.tmp 107) (.tmp 109) 30 56 rfl Try.underlying30 (by decide) info56 w.heap.size (Nat.le_refl _) _ fs ((⟨0, numV bs (q : Int) 2, []⟩ : Fl)) (wr.heap.size + 1) 1 (.slice none 0 0) rfl HO2.out rfl (cell_blk HBK.out 0 rfl) (cell_blk HBK.out 1 rfl) (cell_blk HBK.out 2 rfl) HV2.out HLN.out HB2.out.size ?_))
          rintro v5 w5 hO5 hg5 hb5
          have HO5 := Lib.hid hO5
          have HB5 := Lib.hid (HB2.out.trans hb5)
          clear hO5 hg5 hb5 HO2 HB2 HV2 HBK
          go_wp2_with fail
          go_roundw
          case rel => exact ⟨j + 1, q + 2, fs ++ [(⟨0, numV bs (q : Int) 2, []⟩ : Fl)], by omega, by omega, by simp, by simp, Lib.hid (by rw [List.length_append, HLE.out]; rfl), HO5, HD, HB5⟩
          case measure => simp [intOf]; omega
        · rw [decide_eq_false hf] at HC
          rw [read_0_no bs q fs M (fun h => hf ((fits_p _ _ _).2 (by rw [← HL.out]; exact h)))] at HD
          clear hf
          have hres : res = none := HD.out.symm
          subst hres
          go_wp2_with fail
          refine (HC.out _ ((Below.refl _ _).alloc (Nat.le_refl _) _)).mono ?_
          rintro e w2 ⟨rfl, hww⟩
          rw [hww]
          clear hww w2 HC
          go_wp2_with fail
          refine bodyPost_ret (v := .tuple #[.slice none 0 0, .int .i64 0, .bool false]) (by simp [results, Try.f9, go_sem]) rfl ⟨HBW.out.alloc HBW.out.size _, rfl⟩
      by_cases k1 : x = 1
      · subst k1
        have HC := Lib.hid (fun w' (hb' : Below wr.heap.size wr w') => refNumber_any a n cap q 4 (.inr rfl) bs HL.out hn w' (HY.out.below hb'))
        by_cases hf : fits n (q : Int) ((4 : Nat) : Int)
        · rw [decide_eq_true hf] at HC
          have hq2 : q + 4 ≤ n := (fits_p _ _ _).1 hf
          rw [read_1_yes bs q fs M (by rw [HL.out]; exact hq2)] at HD
          clear hf
          go_wp2_with fail
          refine (HC.out _ ((Below.refl _ _).alloc (Nat.le_refl _) _)).mono ?_
          rintro e w2 ⟨rfl, hww⟩
          rw [hww]
          clear hww w2 HC
          have hB2 : Below wr.heap.size wr ((wr.alloc (.cells #[.int .i64 1, .int .i64 (numV bs (q : Int) 4), .slice none 0 0] 56)).alloc (.cells #[.int .i64 1, .int .i64 (numV bs (q : Int) 4), .slice none 0 0] 56)) := ((Below.refl _ _).alloc (Nat.le_refl _) _).alloc (by rw [World.size_alloc]; omega) _
          have HO2 := Lib.hid (HO.out.below hB2)
          have HB2 := Lib.hid (below_step HBW.out hB2)
          have HV2 : Hid (Bv w.heap.size ((wr.alloc (.cells #[.int .i64 1, .int .i64 (numV bs (q : Int) 4), .slice none 0 0] 56)).alloc (.cells #[.int .i64 1, .int .i64 (numV bs (q : Int) 4), .slice none 0 0] 56)) (.slice none 0 0) ((⟨1, numV bs (q : Int) 4, []⟩ : Fl)).b) := Lib.hid (Bv.below (Bv.nil _ _) hB2)
          have hbk := alloc_at (wr.alloc (.cells #[.int .i64 1, .int .i64 (numV bs (q : Int) 4), .slice none 0 0] 56)) (.cells #[.int .i64 1, .int .i64 (numV bs (q : Int) 4), .slice none 0 0] 56)
          rw [World.size_alloc] at hbk
          have HBK := Lib.hid hbk
          have HLN : Hid (fs.length + 1 ≤ 1099511627776) := Lib.hid (by rw [HLE.out]; omega)
          clear hB2 hbk HO HBW
          go_wp2_with (at_builtin; go_loud (refine wpList_append_fld w.heap.size rfl (.tmp 107) (.tmp 109) 30 56 rfl Try.underlying30 (by decide) info56 w.heap.size (Nat.le_refl _) _ fs ((⟨1, numV bs (q : Int) 4, []⟩ : Fl)) (wr.heap.size + 1) 1 (.slice none 0 0) rfl HO2.out rfl (cell_blk HBK.out 0 rfl) (cell_blk HBK.out 1 rfl) (cell_blk HBK.out 2 rfl) HV2.out HLN.out HB2.out.size ?_))
          rintro v5 w5 hO5 hg5 hb5
          have HO5 := Lib.hid hO5
          have HB5 := Lib.hid (HB2.out.trans hb5)
          clear hO5 hg5 hb5 HO2 HB2 HV2 HBK
          go_wp2_with fail
          go_roundw
          case rel => exact ⟨j + 1, q + 4, fs ++ [(⟨1, numV bs (q : Int) 4, []⟩ : Fl)], by omega, by omega, by simp, by simp, Lib.hid (by rw [List.length_append, HLE.out]; rfl), HO5, HD, HB5⟩
          case measure => simp [intOf]; omega
        · rw [decide_eq_false hf] at HC
          rw [read_1_no bs q fs M (fun h => hf ((fits_p _ _ _).2 (by rw [← HL.out]; exact h)))] at HD
          clear hf
          have hres : res = none := HD.out.symm
          subst hres
          go_wp2_with fail
          refine (HC.out _ ((Below.refl _ _).alloc (Nat.le_refl _) _)).mono ?_
          rintro e w2 ⟨rfl, hww⟩
          rw [hww]
          clear hww w2 HC
          go_wp2_with fail
          refine bodyPost_ret (v := .tuple #[.slice none 0 0, .int .i64 0, .bool false]) (by simp [results, Try.f9, go_sem]) rfl ⟨HBW.out.alloc HBW.out.size _, rfl⟩
      by_cases k2 : x = 2
      · subst k2
        have hM1 : 1 ≤ M := HMP.out j HX.out
        by_cases ht : M ≤ j
        · obtain ⟨t, ht2⟩ : ∃ t, t + M = j := ⟨j - M, by omega⟩
          have HLE2 : Hid (fs.length = M + t) := Lib.hid (by rw [HLE.out]; omega)
          obtain ⟨f, hft⟩ : ∃ f, fs[t]? = some f := ⟨fs[t]'(by have := HLE2.out; omega), List.getElem?_eq_getElem _⟩
          have HFT := Lib.hid hft
          obtain ⟨g, rfl, d0, d1, _⟩ := HO.out.at hft
          have dA0 : ∀ o, (wr.alloc o).cell? ⟨g, t * 3, none⟩ = some (.int .i64 f.kind) := fun o => cell_at ((Below.refl _ _).alloc (Nat.le_refl _) o) d0
          have dA1 : ∀ o, (wr.alloc o).cell? ⟨g, t * 3 + 1, none⟩ = some (.int .i64 f.n) := fun o => cell_at ((Below.refl _ _).alloc (Nat.le_refl _) o) d1
          have h1 : (j : Int) - (M : Int) = (t : Int) := by omega
          have htj : t < j := by omega
          clear hft ht2
          by_cases hk : f.kind ≤ 1
          · have hk2 : ¬ 1 < f.kind := by omega
            obtain ⟨z, hz⟩ : ∃ z, z = f.n := ⟨_, rfl⟩
            by_cases hr : q + z ≤ n
            · rw [read_2_yes bs q HLE2.out HFT.out hk (by rw [HL.out, ← hz]; exact hr), ← hz] at HD
              rw [← hz] at d1 dA1
              have hr2 : ¬ (n : Int) - (q : Int) < (z : Int) := by omega
              clear hz HX
              go_upto_block 2 with fail
              go_cut [12, 13, 14, 15] (fun s12 s13 s14 s15 wx => ∃ v, s12 = .int .i64 ((z : Nat) : Int) ∧ (∃ ad al acc, v = .slice ad al acc) ∧ Hid (Bv w.heap.size wr v ((bs.drop q).take z)) ∧ wx = wr.alloc (.cells #[.int .i64 2, .int .i64 0, v] 56))
              case first =>
                go_wp2_with fail
                refine (HAL.out _ (HBW.out.alloc HBW.out.size _)).mono ?_
                rintro e w2 ⟨rfl, hww⟩
                rw [hww]
                clear hww w2
                cases a with
                | none =>
                  obtain ⟨e1, e2⟩ := HN.out rfl
                  subst e1; subst e2
                  have hp0 : q = 0 := by omega
                  have hk0 : z = 0 := by omega
                  subst hp0; subst hk0
                  go_wp2_with fail
                  go_meet
                  exact ⟨_, rfl, ⟨_, _, _, rfl⟩, Lib.hid (Bv.empty (by simp) (by first | exact fun _ => rfl | (intro h; cases h))), rfl⟩
                | some ad =>
                  rcases HY.out with hnb | ⟨b, o, had, hcc⟩
                  · have hn0 : n = 0 := by have := HL.out; rw [hnb] at this; simpa using this.symm
                    have hp0 : q = 0 := by omega
                    have hk0 : z = 0 := by omega
                    subst hn0; subst hp0; subst hk0
                    go_wp2_with fail
                    all_goals
                      go_meet
                      exact ⟨_, rfl, ⟨_, _, _, rfl⟩, Lib.hid (Bv.empty (by simp) (by first | exact fun _ => rfl | (intro h; cases h))), rfl⟩
                  · cases had
                    have HCC := Lib.hid hcc
                    have HLT : Hid (bs ≠ [] → b < w.heap.size) := Lib.hid (fun hne => HB.out.lt hne)
                    clear hcc
                    by_cases hcp : cap = q
                    · have hk0 : z = 0 := by omega
                      have hpn : q = n := by omega
                      subst hcp; subst hpn; subst hk0
                      go_wp2_with fail
                      go_meet
                      exact ⟨_, rfl, ⟨_, _, _, rfl⟩, Lib.hid (Bv.empty (by simp) (by first | exact fun _ => rfl | (intro h; cases h))), rfl⟩
                    · have hcp2 : ¬ cap - q = 0 := by omega
                      go_wp2_with fail
                      go_meet

                      exact ⟨_, rfl, ⟨_, _, _, rfl⟩, Lib.hid (Bv.part HCC.out HLT.out (by rw [HL.out]; omega) (by omega)), rfl⟩
              case rest =>
                obtain ⟨v, rfl, ⟨ad, al, acc, rfl⟩, HV, rfl⟩ := hcut
                have hB2 : Below wr.heap.size wr ((wr.alloc (.cells #[.int .i64 2, .int .i64 0, (.slice ad al acc)] 56)).alloc (.cells #[.int .i64 2, .int .i64 0, (.slice ad al acc)] 56)) := ((Below.refl _ _).alloc (Nat.le_refl _) _).alloc (by rw [World.size_alloc]; omega) _
                have HO2 := Lib.hid (HO.out.below hB2)
                have HB2 := Lib.hid (below_step HBW.out hB2)
                have HV2 : Hid (Bv w.heap.size ((wr.alloc (.cells #[.int .i64 2, .int .i64 0, (.slice ad al acc)] 56)).alloc (.cells #[.int .i64 2, .int .i64 0, (.slice ad al acc)] 56)) ((.slice ad al acc)) ((⟨2, 0, (bs.drop q).take z⟩ : Fl)).b) := Lib.hid (Bv.below HV.out hB2)
                have hbk := alloc_at (wr.alloc (.cells #[.int .i64 2, .int .i64 0, (.slice ad al acc)] 56)) (.cells #[.int .i64 2, .int .i64 0, (.slice ad al acc)] 56)
                rw [World.size_alloc] at hbk
                have HBK := Lib.hid hbk
                have HLN : Hid (fs.length + 1 ≤ 1099511627776) := Lib.hid (by rw [HLE.out]; omega)
                clear hB2 hbk HO HBW
                go_wp2_with (at_builtin; go_loud (refine wpList_append_fld w.heap.size rfl (.tmp 107) (.tmp 109) 30 56 rfl Try.underlying30 (by decide) info56 w.heap.size (Nat.le_refl _) _ fs ((⟨2, 0, (bs.drop q).take z⟩ : Fl)) (wr.heap.size + 1) 1 ((.slice ad al acc)) rfl HO2.out rfl (cell_blk HBK.out 0 rfl) (cell_blk HBK.out 1 rfl) (cell_blk HBK.out 2 rfl) HV2.out HLN.out HB2.out.size ?_))
                rintro v5 w5 hO5 hg5 hb5
                have HO5 := Lib.hid hO5
                have HB5 := Lib.hid (HB2.out.trans hb5)
                clear hO5 hg5 hb5 HO2 HB2 HV2 HBK
                go_wp2_with fail
                go_roundw
                case rel => exact ⟨j + 1, q + z, fs ++ [(⟨2, 0, (bs.drop q).take z⟩ : Fl)], by omega, by omega, by simp, by simp, Lib.hid (by rw [List.length_append, HLE.out]; rfl), HO5, HD, HB5⟩
                case measure => simp [intOf]; omega
            · rw [read_2_no bs q HLE2.out HFT.out hk (by rw [HL.out, ← hz]; exact hr)] at HD
              rw [← hz] at d1 dA1
              have hr2 : (n : Int) - (q : Int) < (z : Int) := by omega
              clear hz HX
              have hres : res = none := HD.out.symm
              subst hres
              go_wp2_with fail
              refine (HAL.out _ (HBW.out.alloc HBW.out.size _)).mono ?_
              rintro e w2 ⟨rfl, hww⟩
              rw [hww]
              clear hww w2
              go_wp2_with fail
              refine bodyPost_ret (v := .tuple #[.slice none 0 0, .int .i64 0, .bool false]) (by simp [results, Try.f9, go_sem]) rfl ⟨HBW.out.alloc HBW.out.size _, rfl⟩
          · have hk2 : 1 < f.kind := by omega
            rw [read_2_kind bs q HLE2.out HFT.out hk] at HD
            clear HX
            have hres : res = none := HD.out.symm
            subst hres
            go_wp2_with fail
            refine (HAL.out _ (HBW.out.alloc HBW.out.size _)).mono ?_
            rintro e w2 ⟨rfl, hww⟩
            rw [hww]
            clear hww w2
            go_wp2_with fail
            refine bodyPost_ret (v := .tuple #[.slice none 0 0, .int .i64 0, .bool false]) (by simp [results, Try.f9, go_sem]) rfl ⟨HBW.out.alloc HBW.out.size _, rfl⟩
        · rw [read_2_short bs q fs M (by rw [HLE.out]; exact ht)] at HD
          have h1 : (j : Int) - (M : Int) < 0 := by omega
          clear HX
          have hres : res = none := HD.out.symm
          subst hres
          go_wp2_with fail
          refine (HAL.out _ (HBW.out.alloc HBW.out.size _)).mono ?_
          rintro e w2 ⟨rfl, hww⟩
          rw [hww]
          clear hww w2
          go_wp2_with fail
          refine bodyPost_ret (v := .tuple #[.slice none 0 0, .int .i64 0, .bool false]) (by simp [results, Try.f9, go_sem]) rfl ⟨HBW.out.alloc HBW.out.size _, rfl⟩
      by_cases k3 : x = 3
      · subst k3
        obtain ⟨z, hz⟩ : ∃ z, q + z = n := ⟨n - q, by omega⟩
        have hz2 : (n : Int) - (q : Int) = (z : Int) := by omega
        have hqz : q + z ≤ n := by omega
        rw [read_3 bs q fs M z (by rw [HL.out, hz])] at HD
        have HZ := Lib.hid hz
        clear hz HX
        go_upto_block 2 with fail
        go_cut [12, 13, 14, 15] (fun s12 s13 s14 s15 wx => ∃ v, s12 = .int .i64 ((z : Nat) : Int) ∧ (∃ ad al acc, v = .slice ad al acc) ∧ Hid (Bv w.heap.size wr v ((bs.drop q).take z)) ∧ wx = wr.alloc (.cells #[.int .i64 3, .int .i64 0, v] 56))
        case first =>
          skip
          cases a with
          | none =>
            obtain ⟨e1, e2⟩ := HN.out rfl
            subst e1; subst e2
            have hp0 : q = 0 := by omega
            have hk0 : z = 0 := by omega
            subst hp0; subst hk0
            go_wp2_with fail
            go_meet
            exact ⟨_, rfl, ⟨_, _, _, rfl⟩, Lib.hid (Bv.empty (by simp) (by first | exact fun _ => rfl | (intro h; cases h))), rfl⟩
          | some ad =>
            rcases HY.out with hnb | ⟨b, o, had, hcc⟩
            · have hn0 : n = 0 := by have := HL.out; rw [hnb] at this; simpa using this.symm
              have hp0 : q = 0 := by omega
              have hk0 : z = 0 := by omega
              subst hn0; subst hp0; subst hk0
              go_wp2_with fail
              all_goals
                go_meet
                exact ⟨_, rfl, ⟨_, _, _, rfl⟩, Lib.hid (Bv.empty (by simp) (by first | exact fun _ => rfl | (intro h; cases h))), rfl⟩
            · cases had
              have HCC := Lib.hid hcc
              have HLT : Hid (bs ≠ [] → b < w.heap.size) := Lib.hid (fun hne => HB.out.lt hne)
              clear hcc
              by_cases hcp : cap = q
              · have hk0 : z = 0 := by omega
                have hpn : q = n := by omega
                subst hcp; subst hpn; subst hk0
                go_wp2_with fail
                go_meet
                exact ⟨_, rfl, ⟨_, _, _, rfl⟩, Lib.hid (Bv.empty (by simp) (by first | exact fun _ => rfl | (intro h; cases h))), rfl⟩
              · have hcp2 : ¬ cap - q = 0 := by omega
                go_wp2_with fail
                go_meet
                rw [show n - q = z by omega]
                exact ⟨_, rfl, ⟨_, _, _, rfl⟩, Lib.hid (Bv.part HCC.out HLT.out (by rw [HL.out]; omega) (by omega)), rfl⟩
        case rest =>
          obtain ⟨v, rfl, ⟨ad, al, acc, rfl⟩, HV, rfl⟩ := hcut
          have hB2 : Below wr.heap.size wr ((wr.alloc (.cells #[.int .i64 3, .int .i64 0, (.slice ad al acc)] 56)).alloc (.cells #[.int .i64 3, .int .i64 0, (.slice ad al acc)] 56)) := ((Below.refl _ _).alloc (Nat.le_refl _) _).alloc (by rw [World.size_alloc]; omega) _
          have HO2 := Lib.hid (HO.out.below hB2)
          have HB2 := Lib.hid (below_step HBW.out hB2)
          have HV2 : Hid (Bv w.heap.size ((wr.alloc (.cells #[.int .i64 3, .int .i64 0, (.slice ad al acc)] 56)).alloc (.cells #[.int .i64 3, .int .i64 0, (.slice ad al acc)] 56)) ((.slice ad al acc)) ((⟨3, 0, (bs.drop q).take z⟩ : Fl)).b) := Lib.hid (Bv.below HV.out hB2)
          have hbk := alloc_at (wr.alloc (.cells #[.int .i64 3, .int .i64 0, (.slice ad al acc)] 56)) (.cells #[.int .i64 3, .int .i64 0, (.slice ad al acc)] 56)
          rw [World.size_alloc] at hbk
          have HBK := Lib.hid hbk
          have HLN : Hid (fs.length + 1 ≤ 1099511627776) := Lib.hid (by rw [HLE.out]; omega)
          clear hB2 hbk HO HBW
          go_wp2_with (at_builtin; go_loud (refine wpList_append_fld w.heap.size rfl (.tmp 107) (.tmp 109) 30 56 rfl Try.underlying30 (by decide) info56 w.heap.size (Nat.le_refl _) _ fs ((⟨3, 0, (bs.drop q).take z⟩ : Fl)) (wr.heap.size + 1) 1 ((.slice ad al acc)) rfl HO2.out rfl (cell_blk HBK.out 0 rfl) (cell_blk HBK.out 1 rfl) (cell_blk HBK.out 2 rfl) HV2.out HLN.out HB2.out.size ?_))
          rintro v5 w5 hO5 hg5 hb5
          have HO5 := Lib.hid hO5
          have HB5 := Lib.hid (HB2.out.trans hb5)
          clear hO5 hg5 hb5 HO2 HB2 HV2 HBK
          go_wp2_with fail
          go_roundw
          case rel => exact ⟨j + 1, q + z, fs ++ [(⟨3, 0, (bs.drop q).take z⟩ : Fl)], by omega, by omega, by simp, by simp, Lib.hid (by rw [List.length_append, HLE.out]; rfl), HO5, HD, HB5⟩
          case measure => simp [intOf]; omega
      rw [read_x bs q fs M k0 k1 k2 k3] at HD
      clear HX

      have hres : res = none := HD.out.symm
      subst hres
      go_wp2_with fail
      refine bodyPost_ret (v := .tuple #[.slice none 0 0, .int .i64 0, .bool false]) (by simp [results, Try.f9, go_sem]) rfl ⟨HBW.out.alloc HBW.out.size _, rfl⟩
    · have hjm : j = m := by omega
      have hd := HRES.out
      rw [hjm, ← HKL.out, List.drop_length] at hd
      have hres : res = some (fs, q) := hd.symm
      subst hres
      clear hd hjm HRES
      go_wp2_with fail
      refine bodyPost_ret (v := .tuple #[_, .int .i64 q, .bool true]) (by simp [results, Try.f9, go_sem]) rfl ⟨HBW.out, _, rfl, HO.out⟩
theorem refRead_any (a : Option Addr) (n cap : Nat) (p : Int) (ka : Option Addr) (m mc : Nat) (bs : List UInt8) (ks : List Int) (hl : bs.length = n) (hn : n ≤ 1099511627776) (hcap : n ≤ cap) (hnil : a = none → n = 0 ∧ cap = 0) (hkl : ks.length = m) (hm : m ≤ 1099511627776) (w : World) (hb : Bytes w a bs) (hk : Ints w ka ks) :
    Calls Try.prog 9 #[.slice a n cap, .int .i64 p, .slice ka m mc] w fun e w' => Below w.heap.size w w' ∧ match readV bs p ks with
      | some (fs, q) => ∃ lv, e = .returned (.tuple #[lv, .int .i64 q, .bool true]) ∧ OwnF w.heap.size w' w.heap.size 56 lv fs
      | none => e = .returned (.tuple #[.slice none 0 0, .int .i64 0, .bool false]) := by
  unfold readV
  by_cases h : 0 ≤ p ∧ p ≤ bs.length
  · rw [if_pos h]
    obtain ⟨q, rfl⟩ : ∃ q : Nat, p = q := ⟨p.toNat, by omega⟩
    exact refRead_in a n cap q ka m mc bs ks hl hn hcap hnil (by omega) hkl hm w hb hk
  · rw [if_neg h]
    refine (refRead_out a n cap p ka m mc hn (by rw [← hl]; exact h) w).mono ?_
    rintro e w' ⟨h1, h2⟩
    exact ⟨h2, h1⟩
end Go.Proofs.Ytgapahmjcladlaa
