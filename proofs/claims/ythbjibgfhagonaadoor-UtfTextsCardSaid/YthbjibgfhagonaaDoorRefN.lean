/- The reference's sign at a place: what the call computes, for all bytes and places. -/
import Derived.Test.YthbjibgfhagonaaDoorRefB
import Derived.Deep.QuietTactic
import Derived.BigQuiet
namespace Go.Proofs.YthbjibgfhagonaaDoor
open Go.RowKit
set_option linter.unusedVariables false

def vfold (v : Int) (l : List UInt8) : Int := l.foldl (fun v c => v * 64 + byt c % 64) v
theorem vfold_snoc (v : Int) (l : List UInt8) (c : UInt8) : vfold v (l ++ [c]) = vfold v l * 64 + byt c % 64 := by unfold vfold; rw [List.foldl_append]; rfl
def refR (m : Nat) (v0 : Int) (l : List UInt8) : Int × Int :=
  if l.length < m then (0, 0) else
  if Lib.validRune (vfold v0 ((l.drop 1).take (m - 1))) = true ∧ (encB (vfold v0 ((l.drop 1).take (m - 1)))).length = m ∧ l.take m = encB (vfold v0 ((l.drop 1).take (m - 1))) then (vfold v0 ((l.drop 1).take (m - 1)), m) else (0, 0)
def vok (i : Nat) (v : Int) : Prop := 0 ≤ v ∧ (i ≤ 1 → v < 256) ∧ (i ≤ 2 → v < 16384) ∧ (i ≤ 3 → v < 1048576) ∧ v < 67108864

set_option maxHeartbeats 2000000 in
set_option maxRecDepth 100000 in
theorem refNext_1 (b o n cap k : Nat) (bs : List UInt8) (c0 : UInt8) (w : World) (hl : bs.length = n) (hn : n ≤ 1000000) (hk : k < n) (hc0 : bs[k]? = some c0) (hz : byt c0 < 128)
    (hc : ∀ i c, bs[i]? = some c → w.cell? ⟨b, o + i, none⟩ = some (.int .u8 (byt c))) :
    Calls Tryd.prog 14 #[.slice (some ⟨b, o, none⟩) n cap, .int .i64 k] w fun e w' => e = .returned (.tuple #[.int .i64 (refR 1 (byt c0) (bs.drop k)).1, .int .i64 (refR 1 (byt c0) (bs.drop k)).2]) ∧ Below w.heap.size w w' := by
  have hcell := hc k c0 hc0
  have hlo := byt_nonneg c0
  have hhi := byt_lt c0
  obtain ⟨z0, hz0⟩ : ∃ z0, z0 = byt c0 := ⟨_, rfl⟩
  rw [← hz0] at hcell hz hlo hhi ⊢
  obtain ⟨V0, hV0⟩ : ∃ V0, V0 = z0 := ⟨_, rfl⟩
  have eV0 : z0 = V0 := hV0.symm
  rw [eV0]
  have hV0b : 0 ≤ V0 ∧ V0 < 256 := by omega
  have HL := Lib.hid hl; have HC := Lib.hid hc
  clear hc hl hV0 hz0 hc0
  obtain ⟨l, hll⟩ : ∃ l, l = bs.drop k := ⟨_, rfl⟩
  rw [← hll]
  have hlen : l.length = n - k := by rw [hll, List.length_drop, HL.out]
  have HLC : Hid (∀ (i : Nat) c, l[i]? = some c → bs[k + i]? = some c) := fun i c h => by rw [hll, List.getElem?_drop] at h; exact h
  clear hll
  
  by_cases hm : n - k < 1
  · omega
  · have hkm : k + 1 ≤ n := by omega
    obtain ⟨res, hres⟩ : ∃ res, res = refR 1 V0 l := ⟨_, rfl⟩
    rw [← hres]
    have hR : res = if Lib.validRune (vfold V0 ((l.drop 1).take (1 - 1))) = true ∧ (encB (vfold V0 ((l.drop 1).take (1 - 1)))).length = 1 ∧ l.take 1 = encB (vfold V0 ((l.drop 1).take (1 - 1))) then (vfold V0 ((l.drop 1).take (1 - 1)), 1) else (0, 0) := by
      rw [hres]; unfold refR; rw [if_neg (by omega)]; rfl
    have HR := Lib.hid hR
    have HLN : Hid (l.length = n - k) := hlen
    have S0 : Hid (V0 = vfold V0 ((l.drop 1).take (1 - 1))) := Lib.hid (by simp [vfold])
    have S1 : Hid (vok 1 V0) := ⟨hV0b.1, fun _ => hV0b.2, fun _ => by omega, fun _ => by omega, by omega⟩
    clear hm hres hR hlen hV0b
    go_enter Tryd.func14, Tryd.ntmps14
    go_wp2
    go_loopw [8, 9] (fun vv iv wr => ∃ (i : Nat) (V : Int), vv = .int .i64 V ∧ iv = .int .i64 i ∧ 1 ≤ i ∧ i ≤ 1 ∧ Hid (V = vfold V0 ((l.drop 1).take (i - 1))) ∧ Hid (vok i V) ∧ Below w.heap.size w wr) (fun _ iv _ => 1 - (intOf iv).toNat)
    case atStart => exact ⟨1, V0, rfl, rfl, by omega, by omega, S0, S1, Below.refl _ _⟩
    case round =>
      clear S0 S1
      obtain ⟨i, V, rfl, rfl, hi1, him, HV, HVB, hbw⟩ := hrel
      by_cases hlt : i < 1
      · omega
      · obtain rfl : i = 1 := by omega
        rw [← HV.out] at HR
        obtain ⟨W2, rfl⟩ : ∃ x, x = wr := ⟨_, rfl⟩
        cases hv : Lib.validRune V with
        | false =>
          have e1 : res = (0, 0) := by rw [HR.out, if_neg (fun h => by rw [hv] at h; exact absurd h.1 (by simp))]
          have HS := Lib.hid (sign_any V W2)
          have HVV := Lib.hid hv
          have E1 := Lib.hid e1
          clear HR hv e1
          go_wp2_with (go_at_call 17; refine HS.out.mono ?_; rw [HVV.out]; rintro e w1 ⟨rfl, rfl⟩)
          go_ret2
          exact ⟨by rw [E1.out]; rfl, hbw⟩
        | true =>
          have HS := Lib.hid (sign_any V W2)
          have HB := Lib.hid (refBytes_any V W2 hv)
          have HVV := Lib.hid hv
          obtain ⟨y0, _⟩ := HVB.out
          clear hv
          by_cases hle : (encB V).length = 1
          · go_wp2_with (first
              | (go_at_call 17; refine HS.out.mono ?_; rw [HVV.out]; rintro e w1 ⟨rfl, rfl⟩)
              | (go_at_call 18; refine HB.out.mono ?_; rintro e w1 ⟨x, rfl, hx, hb1⟩; obtain ⟨b2, o2, c2, rfl, hc2, hx2⟩ := isB_ne hx (fun h => by rw [h] at hle; simp at hle) 1 hle))
            have HX := Lib.hid hx2
            have T0 : Hid (l.take 0 = (encB V).take 0) := Lib.hid rfl
            have hbw1 := hbw.trans (hb1.mono hbw.size)
            have HLE := Lib.hid hle
            obtain ⟨W3, rfl⟩ : ∃ x, x = w1 := ⟨_, rfl⟩
            clear hx hx2 hb1 hbw HB HS hle
            go_wp2
            go_loopw [11] (fun iv wr => ∃ i : Nat, iv = .int .i64 i ∧ i ≤ 1 ∧ Hid (l.take i = (encB V).take i) ∧ Below W3.heap.size W3 wr) (fun iv _ => 1 - (intOf iv).toNat)
            case atStart => exact ⟨0, rfl, by omega, T0, Below.refl _ _⟩
            case round =>
              clear T0
              obtain ⟨i, rfl, hi, HT, hbr⟩ := hrel
              by_cases hlt : i < 1
              · obtain ⟨J, hJ⟩ : ∃ J, J = k + i := ⟨_, rfl⟩
                have eJ : (k : Int) + (i : Int) = (J : Int) := by omega
                obtain ⟨c, hc⟩ := at_some (us := l) (k := i) (by rw [HLN.out]; omega)
                obtain ⟨d, hd⟩ := at_some (us := encB V) (k := i) (by rw [HLE.out]; exact hlt)
                have g1 : wr.cell? ⟨b, o + J, none⟩ = some (.int .u8 (byt c)) := by
                  have h1 := HC.out (k + i) c (HLC.out i c hc)
                  have h2 := hbw1.trans (hbr.mono hbw1.size)
                  rw [hJ, h2.cell (block_lt_of_cell h1)]; exact h1
                have g2 : wr.cell? ⟨b2, o2 + i, none⟩ = some (.int .u8 (byt d)) := cell_at hbr (HX.out i d hd)
                have hJn : J < n := by omega
                have i1 : (0 : Int) ≤ (J : Int) := by omega
                have i2 : (J : Int) < (n : Int) := by omega
                have i3 : (0 : Int) ≤ (i : Int) := by omega
                have i4 : (i : Int) < 1 := by omega
                have HCC := Lib.hid hc; have HDD := Lib.hid hd
                clear hc hd hJ
                by_cases hcd : c = d
                · have e1 : (byt c != byt d) = false := by rw [hcd]; simp
                  have HE := Lib.hid hcd
                  clear hcd
                  go_wp2
                  go_quiet (fail)
                  go_wp2
                  go_roundw
                  case rel => exact ⟨i + 1, by simp, by omega, Lib.hid (by rw [List.take_add_one, List.take_add_one, HT.out, HCC.out, HDD.out, HE.out]), Below.drewN hbr _⟩
                  case measure => simp [intOf]; omega
                · have e1 : (byt c != byt d) = true := by rw [bne_iff_ne]; exact fun h => hcd (byt_inj h)
                  have e2 : res = (0, 0) := by
                    rw [HR.out, if_neg]
                    rintro ⟨_, _, h3⟩
                    apply hcd
                    have h4 : (l.take 1)[i]? = some c := by rw [List.getElem?_take, if_pos hlt]; exact HCC.out
                    rw [h3, HDD.out] at h4
                    exact (Option.some.inj h4).symm
                  have E2 := Lib.hid e2
                  clear hcd HR e2
                  go_wp2
                  go_quiet (fail)
                  go_wp2
                  go_ret2
                  exact ⟨by rw [E2.out]; rfl, hbw1.trans ((Below.drewN hbr _).mono hbw1.size)⟩
              · obtain rfl : i = 1 := by omega
                have e2 : res = (V, 1) := by
                  rw [HR.out, if_pos]
                  refine ⟨HVV.out, HLE.out, ?_⟩
                  rw [HT.out, List.take_of_length_le (by rw [HLE.out]; omega)]
                have E2 := Lib.hid e2
                clear HR e2
                go_wp2
                go_ret2
                exact ⟨by rw [E2.out]; rfl, hbw1.trans (hbr.mono hbw1.size)⟩
          · have e1 : res = (0, 0) := by rw [HR.out, if_neg (fun h => hle h.2.1)]
            obtain ⟨E, hE⟩ : ∃ E, E = (encB V).length := ⟨_, rfl⟩
            have hle2 : ((E : Int) != 1) = true := by rw [bne_iff_ne, hE]; omega
            have hEn := encB_len V
            rw [← hE] at hEn
            have HEE := Lib.hid hE.symm
            have E1 := Lib.hid e1
            clear HR e1 hle hE
            go_wp2_with (first
              | (go_at_call 17; refine HS.out.mono ?_; rw [HVV.out]; rintro e w1 ⟨rfl, rfl⟩)
              | (go_at_call 18; refine HB.out.mono ?_; rintro e w1 ⟨x, rfl, hx, hb1⟩; obtain ⟨b2, o2, c2, rfl, hc2, hx2⟩ := isB_ne hx (fun h => by have := HEE.out; rw [h] at this; simp at this; omega) E HEE.out))
            go_ret2
            exact ⟨by rw [E1.out]; rfl, hbw.trans (hb1.mono hbw.size)⟩

set_option maxHeartbeats 2000000 in
set_option maxRecDepth 100000 in
theorem refNext_2 (b o n cap k : Nat) (bs : List UInt8) (c0 : UInt8) (w : World) (hl : bs.length = n) (hn : n ≤ 1000000) (hk : k < n) (hc0 : bs[k]? = some c0) (hz : 192 ≤ byt c0 ∧ byt c0 < 224)
    (hc : ∀ i c, bs[i]? = some c → w.cell? ⟨b, o + i, none⟩ = some (.int .u8 (byt c))) :
    Calls Tryd.prog 14 #[.slice (some ⟨b, o, none⟩) n cap, .int .i64 k] w fun e w' => e = .returned (.tuple #[.int .i64 (refR 2 (byt c0 - 192) (bs.drop k)).1, .int .i64 (refR 2 (byt c0 - 192) (bs.drop k)).2]) ∧ Below w.heap.size w w' := by
  have hcell := hc k c0 hc0
  have hlo := byt_nonneg c0
  have hhi := byt_lt c0
  obtain ⟨z0, hz0⟩ : ∃ z0, z0 = byt c0 := ⟨_, rfl⟩
  rw [← hz0] at hcell hz hlo hhi ⊢
  obtain ⟨V0, hV0⟩ : ∃ V0, V0 = z0 - 192 := ⟨_, rfl⟩
  have eV0 : z0 - 192 = V0 := hV0.symm
  rw [eV0]
  have hV0b : 0 ≤ V0 ∧ V0 < 256 := by omega
  have HL := Lib.hid hl; have HC := Lib.hid hc
  clear hc hl hV0 hz0 hc0
  obtain ⟨l, hll⟩ : ∃ l, l = bs.drop k := ⟨_, rfl⟩
  rw [← hll]
  have hlen : l.length = n - k := by rw [hll, List.length_drop, HL.out]
  have HLC : Hid (∀ (i : Nat) c, l[i]? = some c → bs[k + i]? = some c) := fun i c h => by rw [hll, List.getElem?_drop] at h; exact h
  clear hll
  have hz1 := hz.1
  by_cases hm : n - k < 2
  · have eR : refR 2 V0 l = (0, 0) := by unfold refR; rw [if_pos (by omega)]
    rw [eR]
    clear eR hlen
    go_enter Tryd.func14, Tryd.ntmps14
    go_wp2
    go_ret2
    exact ⟨rfl, Below.refl _ _⟩
  · have hkm : k + 2 ≤ n := by omega
    obtain ⟨res, hres⟩ : ∃ res, res = refR 2 V0 l := ⟨_, rfl⟩
    rw [← hres]
    have hR : res = if Lib.validRune (vfold V0 ((l.drop 1).take (2 - 1))) = true ∧ (encB (vfold V0 ((l.drop 1).take (2 - 1)))).length = 2 ∧ l.take 2 = encB (vfold V0 ((l.drop 1).take (2 - 1))) then (vfold V0 ((l.drop 1).take (2 - 1)), 2) else (0, 0) := by
      rw [hres]; unfold refR; rw [if_neg (by omega)]; rfl
    have HR := Lib.hid hR
    have HLN : Hid (l.length = n - k) := hlen
    have S0 : Hid (V0 = vfold V0 ((l.drop 1).take (1 - 1))) := Lib.hid (by simp [vfold])
    have S1 : Hid (vok 1 V0) := ⟨hV0b.1, fun _ => hV0b.2, fun _ => by omega, fun _ => by omega, by omega⟩
    clear hm hres hR hlen hV0b
    go_enter Tryd.func14, Tryd.ntmps14
    go_wp2
    go_loopw [8, 9] (fun vv iv wr => ∃ (i : Nat) (V : Int), vv = .int .i64 V ∧ iv = .int .i64 i ∧ 1 ≤ i ∧ i ≤ 2 ∧ Hid (V = vfold V0 ((l.drop 1).take (i - 1))) ∧ Hid (vok i V) ∧ Below w.heap.size w wr) (fun _ iv _ => 2 - (intOf iv).toNat)
    case atStart => exact ⟨1, V0, rfl, rfl, by omega, by omega, S0, S1, Below.refl _ _⟩
    case round =>
      clear S0 S1
      obtain ⟨i, V, rfl, rfl, hi1, him, HV, HVB, hbw⟩ := hrel
      by_cases hlt : i < 2
      · obtain ⟨J, hJ⟩ : ∃ J, J = k + i := ⟨_, rfl⟩
        have eJ : (k : Int) + (i : Int) = (J : Int) := by omega
        obtain ⟨c, hc⟩ := at_some (us := l) (k := i) (by rw [HLN.out]; omega)
        have hcJ : wr.cell? ⟨b, o + J, none⟩ = some (.int .u8 (byt c)) := by
          have h1 := HC.out (k + i) c (HLC.out i c hc)
          rw [hJ, hbw.cell (block_lt_of_cell h1)]; exact h1
        have hJn : J < n := by omega
        obtain ⟨x0, x1, x2, x3, x4⟩ := HVB.out
        have y0 := byt_nonneg c
        have y1 := byt_lt c
        have hd : (l.drop 1)[i - 1]? = some c := by rw [List.getElem?_drop, show 1 + (i - 1) = i by omega]; exact hc
        have HV2 : Hid (V * 64 + byt c % 64 = vfold V0 ((l.drop 1).take (i + 1 - 1))) := by
          unfold Hid
          rw [show i + 1 - 1 = (i - 1) + 1 by omega, List.take_add_one, hd]
          show _ = vfold V0 (_ ++ [c])
          rw [vfold_snoc, ← HV.out]
        have HVB2 : Hid (vok (i + 1) (V * 64 + byt c % 64)) := by
          refine ⟨by omega, fun h => by omega, fun h => ?_, fun h => ?_, ?_⟩
          · have := x1 (by omega); omega
          · have := x2 (by omega); omega
          · have := x3 (by omega); omega
        have xb : V < 1048576 := x3 (by omega)
        clear hc hd HV HVB x1 x2 x3 hJ
        go_wp2
        go_roundw
        case rel => exact ⟨i + 1, V * 64 + byt c % 64, by simp, by simp, by omega, by omega, HV2, HVB2, hbw⟩
        case measure => simp [intOf]; omega
      · obtain rfl : i = 2 := by omega
        rw [← HV.out] at HR
        obtain ⟨W2, rfl⟩ : ∃ x, x = wr := ⟨_, rfl⟩
        cases hv : Lib.validRune V with
        | false =>
          have e1 : res = (0, 0) := by rw [HR.out, if_neg (fun h => by rw [hv] at h; exact absurd h.1 (by simp))]
          have HS := Lib.hid (sign_any V W2)
          have HVV := Lib.hid hv
          have E1 := Lib.hid e1
          clear HR hv e1
          go_wp2_with (go_at_call 17; refine HS.out.mono ?_; rw [HVV.out]; rintro e w1 ⟨rfl, rfl⟩)
          go_ret2
          exact ⟨by rw [E1.out]; rfl, hbw⟩
        | true =>
          have HS := Lib.hid (sign_any V W2)
          have HB := Lib.hid (refBytes_any V W2 hv)
          have HVV := Lib.hid hv
          obtain ⟨y0, _⟩ := HVB.out
          clear hv
          by_cases hle : (encB V).length = 2
          · go_wp2_with (first
              | (go_at_call 17; refine HS.out.mono ?_; rw [HVV.out]; rintro e w1 ⟨rfl, rfl⟩)
              | (go_at_call 18; refine HB.out.mono ?_; rintro e w1 ⟨x, rfl, hx, hb1⟩; obtain ⟨b2, o2, c2, rfl, hc2, hx2⟩ := isB_ne hx (fun h => by rw [h] at hle; simp at hle) 2 hle))
            have HX := Lib.hid hx2
            have T0 : Hid (l.take 0 = (encB V).take 0) := Lib.hid rfl
            have hbw1 := hbw.trans (hb1.mono hbw.size)
            have HLE := Lib.hid hle
            obtain ⟨W3, rfl⟩ : ∃ x, x = w1 := ⟨_, rfl⟩
            clear hx hx2 hb1 hbw HB HS hle
            go_wp2
            go_loopw [11] (fun iv wr => ∃ i : Nat, iv = .int .i64 i ∧ i ≤ 2 ∧ Hid (l.take i = (encB V).take i) ∧ Below W3.heap.size W3 wr) (fun iv _ => 2 - (intOf iv).toNat)
            case atStart => exact ⟨0, rfl, by omega, T0, Below.refl _ _⟩
            case round =>
              clear T0
              obtain ⟨i, rfl, hi, HT, hbr⟩ := hrel
              by_cases hlt : i < 2
              · obtain ⟨J, hJ⟩ : ∃ J, J = k + i := ⟨_, rfl⟩
                have eJ : (k : Int) + (i : Int) = (J : Int) := by omega
                obtain ⟨c, hc⟩ := at_some (us := l) (k := i) (by rw [HLN.out]; omega)
                obtain ⟨d, hd⟩ := at_some (us := encB V) (k := i) (by rw [HLE.out]; exact hlt)
                have g1 : wr.cell? ⟨b, o + J, none⟩ = some (.int .u8 (byt c)) := by
                  have h1 := HC.out (k + i) c (HLC.out i c hc)
                  have h2 := hbw1.trans (hbr.mono hbw1.size)
                  rw [hJ, h2.cell (block_lt_of_cell h1)]; exact h1
                have g2 : wr.cell? ⟨b2, o2 + i, none⟩ = some (.int .u8 (byt d)) := cell_at hbr (HX.out i d hd)
                have hJn : J < n := by omega
                have i1 : (0 : Int) ≤ (J : Int) := by omega
                have i2 : (J : Int) < (n : Int) := by omega
                have i3 : (0 : Int) ≤ (i : Int) := by omega
                have i4 : (i : Int) < 2 := by omega
                have HCC := Lib.hid hc; have HDD := Lib.hid hd
                clear hc hd hJ
                by_cases hcd : c = d
                · have e1 : (byt c != byt d) = false := by rw [hcd]; simp
                  have HE := Lib.hid hcd
                  clear hcd
                  go_wp2
                  go_quiet (fail)
                  go_wp2
                  go_roundw
                  case rel => exact ⟨i + 1, by simp, by omega, Lib.hid (by rw [List.take_add_one, List.take_add_one, HT.out, HCC.out, HDD.out, HE.out]), Below.drewN hbr _⟩
                  case measure => simp [intOf]; omega
                · have e1 : (byt c != byt d) = true := by rw [bne_iff_ne]; exact fun h => hcd (byt_inj h)
                  have e2 : res = (0, 0) := by
                    rw [HR.out, if_neg]
                    rintro ⟨_, _, h3⟩
                    apply hcd
                    have h4 : (l.take 2)[i]? = some c := by rw [List.getElem?_take, if_pos hlt]; exact HCC.out
                    rw [h3, HDD.out] at h4
                    exact (Option.some.inj h4).symm
                  have E2 := Lib.hid e2
                  clear hcd HR e2
                  go_wp2
                  go_quiet (fail)
                  go_wp2
                  go_ret2
                  exact ⟨by rw [E2.out]; rfl, hbw1.trans ((Below.drewN hbr _).mono hbw1.size)⟩
              · obtain rfl : i = 2 := by omega
                have e2 : res = (V, 2) := by
                  rw [HR.out, if_pos]
                  refine ⟨HVV.out, HLE.out, ?_⟩
                  rw [HT.out, List.take_of_length_le (by rw [HLE.out]; omega)]
                have E2 := Lib.hid e2
                clear HR e2
                go_wp2
                go_ret2
                exact ⟨by rw [E2.out]; rfl, hbw1.trans (hbr.mono hbw1.size)⟩
          · have e1 : res = (0, 0) := by rw [HR.out, if_neg (fun h => hle h.2.1)]
            obtain ⟨E, hE⟩ : ∃ E, E = (encB V).length := ⟨_, rfl⟩
            have hle2 : ((E : Int) != 2) = true := by rw [bne_iff_ne, hE]; omega
            have hEn := encB_len V
            rw [← hE] at hEn
            have HEE := Lib.hid hE.symm
            have E1 := Lib.hid e1
            clear HR e1 hle hE
            go_wp2_with (first
              | (go_at_call 17; refine HS.out.mono ?_; rw [HVV.out]; rintro e w1 ⟨rfl, rfl⟩)
              | (go_at_call 18; refine HB.out.mono ?_; rintro e w1 ⟨x, rfl, hx, hb1⟩; obtain ⟨b2, o2, c2, rfl, hc2, hx2⟩ := isB_ne hx (fun h => by have := HEE.out; rw [h] at this; simp at this; omega) E HEE.out))
            go_ret2
            exact ⟨by rw [E1.out]; rfl, hbw.trans (hb1.mono hbw.size)⟩

set_option maxHeartbeats 2000000 in
set_option maxRecDepth 100000 in
theorem refNext_3 (b o n cap k : Nat) (bs : List UInt8) (c0 : UInt8) (w : World) (hl : bs.length = n) (hn : n ≤ 1000000) (hk : k < n) (hc0 : bs[k]? = some c0) (hz : 224 ≤ byt c0 ∧ byt c0 < 240)
    (hc : ∀ i c, bs[i]? = some c → w.cell? ⟨b, o + i, none⟩ = some (.int .u8 (byt c))) :
    Calls Tryd.prog 14 #[.slice (some ⟨b, o, none⟩) n cap, .int .i64 k] w fun e w' => e = .returned (.tuple #[.int .i64 (refR 3 (byt c0 - 224) (bs.drop k)).1, .int .i64 (refR 3 (byt c0 - 224) (bs.drop k)).2]) ∧ Below w.heap.size w w' := by
  have hcell := hc k c0 hc0
  have hlo := byt_nonneg c0
  have hhi := byt_lt c0
  obtain ⟨z0, hz0⟩ : ∃ z0, z0 = byt c0 := ⟨_, rfl⟩
  rw [← hz0] at hcell hz hlo hhi ⊢
  obtain ⟨V0, hV0⟩ : ∃ V0, V0 = z0 - 224 := ⟨_, rfl⟩
  have eV0 : z0 - 224 = V0 := hV0.symm
  rw [eV0]
  have hV0b : 0 ≤ V0 ∧ V0 < 256 := by omega
  have HL := Lib.hid hl; have HC := Lib.hid hc
  clear hc hl hV0 hz0 hc0
  obtain ⟨l, hll⟩ : ∃ l, l = bs.drop k := ⟨_, rfl⟩
  rw [← hll]
  have hlen : l.length = n - k := by rw [hll, List.length_drop, HL.out]
  have HLC : Hid (∀ (i : Nat) c, l[i]? = some c → bs[k + i]? = some c) := fun i c h => by rw [hll, List.getElem?_drop] at h; exact h
  clear hll
  have hz1 := hz.1
  by_cases hm : n - k < 3
  · have eR : refR 3 V0 l = (0, 0) := by unfold refR; rw [if_pos (by omega)]
    rw [eR]
    clear eR hlen
    go_enter Tryd.func14, Tryd.ntmps14
    go_wp2
    go_ret2
    exact ⟨rfl, Below.refl _ _⟩
  · have hkm : k + 3 ≤ n := by omega
    obtain ⟨res, hres⟩ : ∃ res, res = refR 3 V0 l := ⟨_, rfl⟩
    rw [← hres]
    have hR : res = if Lib.validRune (vfold V0 ((l.drop 1).take (3 - 1))) = true ∧ (encB (vfold V0 ((l.drop 1).take (3 - 1)))).length = 3 ∧ l.take 3 = encB (vfold V0 ((l.drop 1).take (3 - 1))) then (vfold V0 ((l.drop 1).take (3 - 1)), 3) else (0, 0) := by
      rw [hres]; unfold refR; rw [if_neg (by omega)]; rfl
    have HR := Lib.hid hR
    have HLN : Hid (l.length = n - k) := hlen
    have S0 : Hid (V0 = vfold V0 ((l.drop 1).take (1 - 1))) := Lib.hid (by simp [vfold])
    have S1 : Hid (vok 1 V0) := ⟨hV0b.1, fun _ => hV0b.2, fun _ => by omega, fun _ => by omega, by omega⟩
    clear hm hres hR hlen hV0b
    go_enter Tryd.func14, Tryd.ntmps14
    go_wp2
    go_loopw [8, 9] (fun vv iv wr => ∃ (i : Nat) (V : Int), vv = .int .i64 V ∧ iv = .int .i64 i ∧ 1 ≤ i ∧ i ≤ 3 ∧ Hid (V = vfold V0 ((l.drop 1).take (i - 1))) ∧ Hid (vok i V) ∧ Below w.heap.size w wr) (fun _ iv _ => 3 - (intOf iv).toNat)
    case atStart => exact ⟨1, V0, rfl, rfl, by omega, by omega, S0, S1, Below.refl _ _⟩
    case round =>
      clear S0 S1
      obtain ⟨i, V, rfl, rfl, hi1, him, HV, HVB, hbw⟩ := hrel
      by_cases hlt : i < 3
      · obtain ⟨J, hJ⟩ : ∃ J, J = k + i := ⟨_, rfl⟩
        have eJ : (k : Int) + (i : Int) = (J : Int) := by omega
        obtain ⟨c, hc⟩ := at_some (us := l) (k := i) (by rw [HLN.out]; omega)
        have hcJ : wr.cell? ⟨b, o + J, none⟩ = some (.int .u8 (byt c)) := by
          have h1 := HC.out (k + i) c (HLC.out i c hc)
          rw [hJ, hbw.cell (block_lt_of_cell h1)]; exact h1
        have hJn : J < n := by omega
        obtain ⟨x0, x1, x2, x3, x4⟩ := HVB.out
        have y0 := byt_nonneg c
        have y1 := byt_lt c
        have hd : (l.drop 1)[i - 1]? = some c := by rw [List.getElem?_drop, show 1 + (i - 1) = i by omega]; exact hc
        have HV2 : Hid (V * 64 + byt c % 64 = vfold V0 ((l.drop 1).take (i + 1 - 1))) := by
          unfold Hid
          rw [show i + 1 - 1 = (i - 1) + 1 by omega, List.take_add_one, hd]
          show _ = vfold V0 (_ ++ [c])
          rw [vfold_snoc, ← HV.out]
        have HVB2 : Hid (vok (i + 1) (V * 64 + byt c % 64)) := by
          refine ⟨by omega, fun h => by omega, fun h => ?_, fun h => ?_, ?_⟩
          · have := x1 (by omega); omega
          · have := x2 (by omega); omega
          · have := x3 (by omega); omega
        have xb : V < 1048576 := x3 (by omega)
        clear hc hd HV HVB x1 x2 x3 hJ
        go_wp2
        go_roundw
        case rel => exact ⟨i + 1, V * 64 + byt c % 64, by simp, by simp, by omega, by omega, HV2, HVB2, hbw⟩
        case measure => simp [intOf]; omega
      · obtain rfl : i = 3 := by omega
        rw [← HV.out] at HR
        obtain ⟨W2, rfl⟩ : ∃ x, x = wr := ⟨_, rfl⟩
        cases hv : Lib.validRune V with
        | false =>
          have e1 : res = (0, 0) := by rw [HR.out, if_neg (fun h => by rw [hv] at h; exact absurd h.1 (by simp))]
          have HS := Lib.hid (sign_any V W2)
          have HVV := Lib.hid hv
          have E1 := Lib.hid e1
          clear HR hv e1
          go_wp2_with (go_at_call 17; refine HS.out.mono ?_; rw [HVV.out]; rintro e w1 ⟨rfl, rfl⟩)
          go_ret2
          exact ⟨by rw [E1.out]; rfl, hbw⟩
        | true =>
          have HS := Lib.hid (sign_any V W2)
          have HB := Lib.hid (refBytes_any V W2 hv)
          have HVV := Lib.hid hv
          obtain ⟨y0, _⟩ := HVB.out
          clear hv
          by_cases hle : (encB V).length = 3
          · go_wp2_with (first
              | (go_at_call 17; refine HS.out.mono ?_; rw [HVV.out]; rintro e w1 ⟨rfl, rfl⟩)
              | (go_at_call 18; refine HB.out.mono ?_; rintro e w1 ⟨x, rfl, hx, hb1⟩; obtain ⟨b2, o2, c2, rfl, hc2, hx2⟩ := isB_ne hx (fun h => by rw [h] at hle; simp at hle) 3 hle))
            have HX := Lib.hid hx2
            have T0 : Hid (l.take 0 = (encB V).take 0) := Lib.hid rfl
            have hbw1 := hbw.trans (hb1.mono hbw.size)
            have HLE := Lib.hid hle
            obtain ⟨W3, rfl⟩ : ∃ x, x = w1 := ⟨_, rfl⟩
            clear hx hx2 hb1 hbw HB HS hle
            go_wp2
            go_loopw [11] (fun iv wr => ∃ i : Nat, iv = .int .i64 i ∧ i ≤ 3 ∧ Hid (l.take i = (encB V).take i) ∧ Below W3.heap.size W3 wr) (fun iv _ => 3 - (intOf iv).toNat)
            case atStart => exact ⟨0, rfl, by omega, T0, Below.refl _ _⟩
            case round =>
              clear T0
              obtain ⟨i, rfl, hi, HT, hbr⟩ := hrel
              by_cases hlt : i < 3
              · obtain ⟨J, hJ⟩ : ∃ J, J = k + i := ⟨_, rfl⟩
                have eJ : (k : Int) + (i : Int) = (J : Int) := by omega
                obtain ⟨c, hc⟩ := at_some (us := l) (k := i) (by rw [HLN.out]; omega)
                obtain ⟨d, hd⟩ := at_some (us := encB V) (k := i) (by rw [HLE.out]; exact hlt)
                have g1 : wr.cell? ⟨b, o + J, none⟩ = some (.int .u8 (byt c)) := by
                  have h1 := HC.out (k + i) c (HLC.out i c hc)
                  have h2 := hbw1.trans (hbr.mono hbw1.size)
                  rw [hJ, h2.cell (block_lt_of_cell h1)]; exact h1
                have g2 : wr.cell? ⟨b2, o2 + i, none⟩ = some (.int .u8 (byt d)) := cell_at hbr (HX.out i d hd)
                have hJn : J < n := by omega
                have i1 : (0 : Int) ≤ (J : Int) := by omega
                have i2 : (J : Int) < (n : Int) := by omega
                have i3 : (0 : Int) ≤ (i : Int) := by omega
                have i4 : (i : Int) < 3 := by omega
                have HCC := Lib.hid hc; have HDD := Lib.hid hd
                clear hc hd hJ
                by_cases hcd : c = d
                · have e1 : (byt c != byt d) = false := by rw [hcd]; simp
                  have HE := Lib.hid hcd
                  clear hcd
                  go_wp2
                  go_quiet (fail)
                  go_wp2
                  go_roundw
                  case rel => exact ⟨i + 1, by simp, by omega, Lib.hid (by rw [List.take_add_one, List.take_add_one, HT.out, HCC.out, HDD.out, HE.out]), Below.drewN hbr _⟩
                  case measure => simp [intOf]; omega
                · have e1 : (byt c != byt d) = true := by rw [bne_iff_ne]; exact fun h => hcd (byt_inj h)
                  have e2 : res = (0, 0) := by
                    rw [HR.out, if_neg]
                    rintro ⟨_, _, h3⟩
                    apply hcd
                    have h4 : (l.take 3)[i]? = some c := by rw [List.getElem?_take, if_pos hlt]; exact HCC.out
                    rw [h3, HDD.out] at h4
                    exact (Option.some.inj h4).symm
                  have E2 := Lib.hid e2
                  clear hcd HR e2
                  go_wp2
                  go_quiet (fail)
                  go_wp2
                  go_ret2
                  exact ⟨by rw [E2.out]; rfl, hbw1.trans ((Below.drewN hbr _).mono hbw1.size)⟩
              · obtain rfl : i = 3 := by omega
                have e2 : res = (V, 3) := by
                  rw [HR.out, if_pos]
                  refine ⟨HVV.out, HLE.out, ?_⟩
                  rw [HT.out, List.take_of_length_le (by rw [HLE.out]; omega)]
                have E2 := Lib.hid e2
                clear HR e2
                go_wp2
                go_ret2
                exact ⟨by rw [E2.out]; rfl, hbw1.trans (hbr.mono hbw1.size)⟩
          · have e1 : res = (0, 0) := by rw [HR.out, if_neg (fun h => hle h.2.1)]
            obtain ⟨E, hE⟩ : ∃ E, E = (encB V).length := ⟨_, rfl⟩
            have hle2 : ((E : Int) != 3) = true := by rw [bne_iff_ne, hE]; omega
            have hEn := encB_len V
            rw [← hE] at hEn
            have HEE := Lib.hid hE.symm
            have E1 := Lib.hid e1
            clear HR e1 hle hE
            go_wp2_with (first
              | (go_at_call 17; refine HS.out.mono ?_; rw [HVV.out]; rintro e w1 ⟨rfl, rfl⟩)
              | (go_at_call 18; refine HB.out.mono ?_; rintro e w1 ⟨x, rfl, hx, hb1⟩; obtain ⟨b2, o2, c2, rfl, hc2, hx2⟩ := isB_ne hx (fun h => by have := HEE.out; rw [h] at this; simp at this; omega) E HEE.out))
            go_ret2
            exact ⟨by rw [E1.out]; rfl, hbw.trans (hb1.mono hbw.size)⟩

set_option maxHeartbeats 2000000 in
set_option maxRecDepth 100000 in
theorem refNext_4 (b o n cap k : Nat) (bs : List UInt8) (c0 : UInt8) (w : World) (hl : bs.length = n) (hn : n ≤ 1000000) (hk : k < n) (hc0 : bs[k]? = some c0) (hz : 240 ≤ byt c0)
    (hc : ∀ i c, bs[i]? = some c → w.cell? ⟨b, o + i, none⟩ = some (.int .u8 (byt c))) :
    Calls Tryd.prog 14 #[.slice (some ⟨b, o, none⟩) n cap, .int .i64 k] w fun e w' => e = .returned (.tuple #[.int .i64 (refR 4 (byt c0 - 240) (bs.drop k)).1, .int .i64 (refR 4 (byt c0 - 240) (bs.drop k)).2]) ∧ Below w.heap.size w w' := by
  have hcell := hc k c0 hc0
  have hlo := byt_nonneg c0
  have hhi := byt_lt c0
  obtain ⟨z0, hz0⟩ : ∃ z0, z0 = byt c0 := ⟨_, rfl⟩
  rw [← hz0] at hcell hz hlo hhi ⊢
  obtain ⟨V0, hV0⟩ : ∃ V0, V0 = z0 - 240 := ⟨_, rfl⟩
  have eV0 : z0 - 240 = V0 := hV0.symm
  rw [eV0]
  have hV0b : 0 ≤ V0 ∧ V0 < 256 := by omega
  have HL := Lib.hid hl; have HC := Lib.hid hc
  clear hc hl hV0 hz0 hc0
  obtain ⟨l, hll⟩ : ∃ l, l = bs.drop k := ⟨_, rfl⟩
  rw [← hll]
  have hlen : l.length = n - k := by rw [hll, List.length_drop, HL.out]
  have HLC : Hid (∀ (i : Nat) c, l[i]? = some c → bs[k + i]? = some c) := fun i c h => by rw [hll, List.getElem?_drop] at h; exact h
  clear hll
  
  by_cases hm : n - k < 4
  · have eR : refR 4 V0 l = (0, 0) := by unfold refR; rw [if_pos (by omega)]
    rw [eR]
    clear eR hlen
    go_enter Tryd.func14, Tryd.ntmps14
    go_wp2
    go_ret2
    exact ⟨rfl, Below.refl _ _⟩
  · have hkm : k + 4 ≤ n := by omega
    obtain ⟨res, hres⟩ : ∃ res, res = refR 4 V0 l := ⟨_, rfl⟩
    rw [← hres]
    have hR : res = if Lib.validRune (vfold V0 ((l.drop 1).take (4 - 1))) = true ∧ (encB (vfold V0 ((l.drop 1).take (4 - 1)))).length = 4 ∧ l.take 4 = encB (vfold V0 ((l.drop 1).take (4 - 1))) then (vfold V0 ((l.drop 1).take (4 - 1)), 4) else (0, 0) := by
      rw [hres]; unfold refR; rw [if_neg (by omega)]; rfl
    have HR := Lib.hid hR
    have HLN : Hid (l.length = n - k) := hlen
    have S0 : Hid (V0 = vfold V0 ((l.drop 1).take (1 - 1))) := Lib.hid (by simp [vfold])
    have S1 : Hid (vok 1 V0) := ⟨hV0b.1, fun _ => hV0b.2, fun _ => by omega, fun _ => by omega, by omega⟩
    clear hm hres hR hlen hV0b
    go_enter Tryd.func14, Tryd.ntmps14
    go_wp2
    go_loopw [8, 9] (fun vv iv wr => ∃ (i : Nat) (V : Int), vv = .int .i64 V ∧ iv = .int .i64 i ∧ 1 ≤ i ∧ i ≤ 4 ∧ Hid (V = vfold V0 ((l.drop 1).take (i - 1))) ∧ Hid (vok i V) ∧ Below w.heap.size w wr) (fun _ iv _ => 4 - (intOf iv).toNat)
    case atStart => exact ⟨1, V0, rfl, rfl, by omega, by omega, S0, S1, Below.refl _ _⟩
    case round =>
      clear S0 S1
      obtain ⟨i, V, rfl, rfl, hi1, him, HV, HVB, hbw⟩ := hrel
      by_cases hlt : i < 4
      · obtain ⟨J, hJ⟩ : ∃ J, J = k + i := ⟨_, rfl⟩
        have eJ : (k : Int) + (i : Int) = (J : Int) := by omega
        obtain ⟨c, hc⟩ := at_some (us := l) (k := i) (by rw [HLN.out]; omega)
        have hcJ : wr.cell? ⟨b, o + J, none⟩ = some (.int .u8 (byt c)) := by
          have h1 := HC.out (k + i) c (HLC.out i c hc)
          rw [hJ, hbw.cell (block_lt_of_cell h1)]; exact h1
        have hJn : J < n := by omega
        obtain ⟨x0, x1, x2, x3, x4⟩ := HVB.out
        have y0 := byt_nonneg c
        have y1 := byt_lt c
        have hd : (l.drop 1)[i - 1]? = some c := by rw [List.getElem?_drop, show 1 + (i - 1) = i by omega]; exact hc
        have HV2 : Hid (V * 64 + byt c % 64 = vfold V0 ((l.drop 1).take (i + 1 - 1))) := by
          unfold Hid
          rw [show i + 1 - 1 = (i - 1) + 1 by omega, List.take_add_one, hd]
          show _ = vfold V0 (_ ++ [c])
          rw [vfold_snoc, ← HV.out]
        have HVB2 : Hid (vok (i + 1) (V * 64 + byt c % 64)) := by
          refine ⟨by omega, fun h => by omega, fun h => ?_, fun h => ?_, ?_⟩
          · have := x1 (by omega); omega
          · have := x2 (by omega); omega
          · have := x3 (by omega); omega
        have xb : V < 1048576 := x3 (by omega)
        clear hc hd HV HVB x1 x2 x3 hJ
        go_wp2
        go_roundw
        case rel => exact ⟨i + 1, V * 64 + byt c % 64, by simp, by simp, by omega, by omega, HV2, HVB2, hbw⟩
        case measure => simp [intOf]; omega
      · obtain rfl : i = 4 := by omega
        rw [← HV.out] at HR
        obtain ⟨W2, rfl⟩ : ∃ x, x = wr := ⟨_, rfl⟩
        cases hv : Lib.validRune V with
        | false =>
          have e1 : res = (0, 0) := by rw [HR.out, if_neg (fun h => by rw [hv] at h; exact absurd h.1 (by simp))]
          have HS := Lib.hid (sign_any V W2)
          have HVV := Lib.hid hv
          have E1 := Lib.hid e1
          clear HR hv e1
          go_wp2_with (go_at_call 17; refine HS.out.mono ?_; rw [HVV.out]; rintro e w1 ⟨rfl, rfl⟩)
          go_ret2
          exact ⟨by rw [E1.out]; rfl, hbw⟩
        | true =>
          have HS := Lib.hid (sign_any V W2)
          have HB := Lib.hid (refBytes_any V W2 hv)
          have HVV := Lib.hid hv
          obtain ⟨y0, _⟩ := HVB.out
          clear hv
          by_cases hle : (encB V).length = 4
          · go_wp2_with (first
              | (go_at_call 17; refine HS.out.mono ?_; rw [HVV.out]; rintro e w1 ⟨rfl, rfl⟩)
              | (go_at_call 18; refine HB.out.mono ?_; rintro e w1 ⟨x, rfl, hx, hb1⟩; obtain ⟨b2, o2, c2, rfl, hc2, hx2⟩ := isB_ne hx (fun h => by rw [h] at hle; simp at hle) 4 hle))
            have HX := Lib.hid hx2
            have T0 : Hid (l.take 0 = (encB V).take 0) := Lib.hid rfl
            have hbw1 := hbw.trans (hb1.mono hbw.size)
            have HLE := Lib.hid hle
            obtain ⟨W3, rfl⟩ : ∃ x, x = w1 := ⟨_, rfl⟩
            clear hx hx2 hb1 hbw HB HS hle
            go_wp2
            go_loopw [11] (fun iv wr => ∃ i : Nat, iv = .int .i64 i ∧ i ≤ 4 ∧ Hid (l.take i = (encB V).take i) ∧ Below W3.heap.size W3 wr) (fun iv _ => 4 - (intOf iv).toNat)
            case atStart => exact ⟨0, rfl, by omega, T0, Below.refl _ _⟩
            case round =>
              clear T0
              obtain ⟨i, rfl, hi, HT, hbr⟩ := hrel
              by_cases hlt : i < 4
              · obtain ⟨J, hJ⟩ : ∃ J, J = k + i := ⟨_, rfl⟩
                have eJ : (k : Int) + (i : Int) = (J : Int) := by omega
                obtain ⟨c, hc⟩ := at_some (us := l) (k := i) (by rw [HLN.out]; omega)
                obtain ⟨d, hd⟩ := at_some (us := encB V) (k := i) (by rw [HLE.out]; exact hlt)
                have g1 : wr.cell? ⟨b, o + J, none⟩ = some (.int .u8 (byt c)) := by
                  have h1 := HC.out (k + i) c (HLC.out i c hc)
                  have h2 := hbw1.trans (hbr.mono hbw1.size)
                  rw [hJ, h2.cell (block_lt_of_cell h1)]; exact h1
                have g2 : wr.cell? ⟨b2, o2 + i, none⟩ = some (.int .u8 (byt d)) := cell_at hbr (HX.out i d hd)
                have hJn : J < n := by omega
                have i1 : (0 : Int) ≤ (J : Int) := by omega
                have i2 : (J : Int) < (n : Int) := by omega
                have i3 : (0 : Int) ≤ (i : Int) := by omega
                have i4 : (i : Int) < 4 := by omega
                have HCC := Lib.hid hc; have HDD := Lib.hid hd
                clear hc hd hJ
                by_cases hcd : c = d
                · have e1 : (byt c != byt d) = false := by rw [hcd]; simp
                  have HE := Lib.hid hcd
                  clear hcd
                  go_wp2
                  go_quiet (fail)
                  go_wp2
                  go_roundw
                  case rel => exact ⟨i + 1, by simp, by omega, Lib.hid (by rw [List.take_add_one, List.take_add_one, HT.out, HCC.out, HDD.out, HE.out]), Below.drewN hbr _⟩
                  case measure => simp [intOf]; omega
                · have e1 : (byt c != byt d) = true := by rw [bne_iff_ne]; exact fun h => hcd (byt_inj h)
                  have e2 : res = (0, 0) := by
                    rw [HR.out, if_neg]
                    rintro ⟨_, _, h3⟩
                    apply hcd
                    have h4 : (l.take 4)[i]? = some c := by rw [List.getElem?_take, if_pos hlt]; exact HCC.out
                    rw [h3, HDD.out] at h4
                    exact (Option.some.inj h4).symm
                  have E2 := Lib.hid e2
                  clear hcd HR e2
                  go_wp2
                  go_quiet (fail)
                  go_wp2
                  go_ret2
                  exact ⟨by rw [E2.out]; rfl, hbw1.trans ((Below.drewN hbr _).mono hbw1.size)⟩
              · obtain rfl : i = 4 := by omega
                have e2 : res = (V, 4) := by
                  rw [HR.out, if_pos]
                  refine ⟨HVV.out, HLE.out, ?_⟩
                  rw [HT.out, List.take_of_length_le (by rw [HLE.out]; omega)]
                have E2 := Lib.hid e2
                clear HR e2
                go_wp2
                go_ret2
                exact ⟨by rw [E2.out]; rfl, hbw1.trans (hbr.mono hbw1.size)⟩
          · have e1 : res = (0, 0) := by rw [HR.out, if_neg (fun h => hle h.2.1)]
            obtain ⟨E, hE⟩ : ∃ E, E = (encB V).length := ⟨_, rfl⟩
            have hle2 : ((E : Int) != 4) = true := by rw [bne_iff_ne, hE]; omega
            have hEn := encB_len V
            rw [← hE] at hEn
            have HEE := Lib.hid hE.symm
            have E1 := Lib.hid e1
            clear HR e1 hle hE
            go_wp2_with (first
              | (go_at_call 17; refine HS.out.mono ?_; rw [HVV.out]; rintro e w1 ⟨rfl, rfl⟩)
              | (go_at_call 18; refine HB.out.mono ?_; rintro e w1 ⟨x, rfl, hx, hb1⟩; obtain ⟨b2, o2, c2, rfl, hc2, hx2⟩ := isB_ne hx (fun h => by have := HEE.out; rw [h] at this; simp at this; omega) E HEE.out))
            go_ret2
            exact ⟨by rw [E1.out]; rfl, hbw.trans (hb1.mono hbw.size)⟩
end Go.Proofs.YthbjibgfhagonaaDoor
