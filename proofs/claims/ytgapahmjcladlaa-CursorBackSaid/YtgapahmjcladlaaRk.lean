/- Where a sign lies last: the search from the end. -/
import Derived.Test.YtgapahmjcladlaaHash
namespace Go.Proofs.Ytgapahmjcladlaa
open Go.RowKit
set_option linter.unusedVariables false

/-- The greatest place of a sign. -/
def LastIs (bs : List UInt8) (s : List UInt8) (r : Int) : Prop :=
  (r = -1 ∧ ∀ i, ¬ atS bs i s) ∨ ∃ k : Nat, r = k ∧ atS bs k s ∧ ∀ i, k < i → ¬ atS bs i s
theorem str_of {w : World} {b o cap : Nat} {bs : List UInt8} (hc : ∀ i c, bs[i]? = some c → w.cell? ⟨b, o + i, none⟩ = some (.int .u8 (byt c))) :
    ∀ n, bs.length = n → (convert 22 9 (.slice (some ⟨b, o, none⟩) n cap)).run Try.prog w = .ok (.string ⟨bs.toArray⟩) w := fun n hn => by
  subst hn
  exact run_convert_bytes_back w 22 9 5 ⟨b, o, none⟩ cap bs Try.underlying22 Try.underlying5 Try.underlying9 (fun j hj => by
    rw [plain_add, hc j bs[j] (by simp [hj])]; rfl)
theorem str_eq (l m : List UInt8) : ((⟨l.toArray⟩ : ByteArray).toList == (⟨m.toArray⟩ : ByteArray).toList) = decide (l = m) := by
  rw [ByteArray.toList_mk, ByteArray.toList_mk]
  show (l == m) = _
  by_cases h : l = m
  · rw [h, decide_eq_true rfl]; exact beq_self_eq_true _
  · rw [decide_eq_false h, beq_eq_false_iff_ne]; exact h
theorem window {bs : List UInt8} {j : Nat} (h : j + 4 ≤ bs.length) : ∃ a b c d, bs[j]? = some a ∧ bs[j + 1]? = some b ∧ bs[j + 2]? = some c ∧ bs[j + 3]? = some d ∧ (bs.drop j).take 4 = [a, b, c, d] := by
  have hl : ((bs.drop j).take 4).length = 4 := by rw [List.length_take, List.length_drop]; omega
  obtain ⟨a, b, c, d, e⟩ := four_of hl
  exact ⟨a, b, c, d, part_get (i := 0) e rfl, part_get (i := 1) e rfl, part_get (i := 2) e rfl, part_get (i := 3) e rfl, e⟩

set_option maxRecDepth 100000 in
set_option maxHeartbeats 2000000 in
theorem rk_any (b o m cap b2 o2 cap2 : Nat) (bs : List UInt8) (x y z u : UInt8) (hl : bs.length = m + 4) (hm : 1 ≤ m) (hn : m ≤ 100000) (hcap : m + 4 ≤ cap) (hcap2 : 4 ≤ cap2) (w : World)
    (hb : ∀ i c, bs[i]? = some c → w.cell? ⟨b, o + i, none⟩ = some (.int .u8 (byt c))) (hs : ∀ i c, [x, y, z, u][i]? = some c → w.cell? ⟨b2, o2 + i, none⟩ = some (.int .u8 (byt c))) :
    Calls Try.prog 36 #[.slice (some ⟨b, o, none⟩) ((m + 4 : Nat)) cap, .slice (some ⟨b2, o2, none⟩) 4 cap2] w fun e w' => (∃ r, e = .returned (.int .i64 r) ∧ LastIs bs [x, y, z, u] r) ∧ Below w.heap.size w w' := by
  have HL := Lib.hid hl; have HB := Lib.hid hb; have HS := Lib.hid hs
  obtain ⟨e0, e1, e2, e3, w0, w1, w2, w3, hwin⟩ := window (bs := bs) (j := m) (by omega)
  have c0 := hb _ _ w0; have c1 := hb _ _ w1; have c2 := hb _ _ w2; have c3 := hb _ _ w3
  have HH := Lib.hid (hash_four b2 o2 cap2 x y z u hcap2 w (hs 0 x rfl) (hs 1 y rfl) (hs 2 z rfl) (hs 3 u rfl))
  have n0 := byt_nonneg e0; have n1 := byt_nonneg e1; have n2 := byt_nonneg e2; have n3 := byt_nonneg e3
  have u0 := byt_lt e0; have u1 := byt_lt e1; have u2 := byt_lt e2; have u3 := byt_lt e3
  have HWIN := Lib.hid hwin
  obtain ⟨S, hS⟩ : ∃ S, S = hR x y z u := ⟨_, rfl⟩
  rw [← hS] at HH
  have HSS := Lib.hid hS
  clear hl hb hs w0 w1 w2 w3 hwin hS
  go_enter Try.func36, Try.ntmps36
  go_wp2_with fail
  refine HH.out.mono ?_
  rintro e wh ⟨rfl, rfl⟩
  go_wp2_with fail
  refine wp_loop_rounds 5 ?_
  rw [rounds_succ]
  go_wp2
  rw [rounds_succ]
  go_wp2
  rw [rounds_succ]
  go_wp2
  rw [rounds_succ]
  go_wp2
  rw [rounds_succ]
  go_wp2
  rw [show ((((byt e3 * 16777619 + byt e2) * 16777619 + byt e1) % 4294967296 * 16777619 % 4294967296 + byt e0) % 4294967296) = hR e0 e1 e2 e3 from rfl]
  obtain ⟨h0, hh0⟩ : ∃ h0, h0 = hR e0 e1 e2 e3 := ⟨_, rfl⟩
  rw [← hh0]
  have HH0 := Lib.hid hh0
  have hb0 := hR_lt e0 e1 e2 e3
  rw [← hh0] at hb0
  have SEP : Hid (∀ q, (convert 22 9 (.slice (some ⟨b2, o2, none⟩) 4 cap2)).run Try.prog (wh.drewN q) = .ok (.string ⟨#[x, y, z, u]⟩) (wh.drewN q)) := fun q => str_of (w := wh.drewN q) HS.out 4 rfl
  have WIN : Hid (∀ j c, j + 4 ≤ m + 4 → ∀ q, (convert 22 9 (.slice (some ⟨b, o + j, none⟩) 4 c)).run Try.prog (wh.drewN q) = .ok (.string ⟨((bs.drop j).take 4).toArray⟩) (wh.drewN q)) := fun j c hj q =>
    str_of (w := wh.drewN q) (bs := (bs.drop j).take 4) (fun i d hi => by
      have := HB.out _ _ (part_get (bs := bs) (p := j) (k := 4) rfl hi)
      rw [← Nat.add_assoc] at this; exact this) 4 (by rw [List.length_take, List.length_drop, HL.out]; omega)
  clear hh0 n0 n1 n2 n3 u0 u1 u2 u3 c0 c1 c2 c3 HH
  obtain ⟨B, hB⟩ : ∃ B : ByteArray, B = ⟨#[x, y, z, u]⟩ := ⟨_, rfl⟩
  have sep : ∀ q, (convert 22 9 (.slice (some ⟨b2, o2, none⟩) 4 cap2)).run Try.prog (wh.drewN q) = .ok (.string B) (wh.drewN q) := by rw [hB]; exact SEP.out
  obtain ⟨A, hA⟩ : ∃ A : ByteArray, A = ⟨((bs.drop m).take 4).toArray⟩ := ⟨_, rfl⟩
  have win : ∀ q, (convert 22 9 (.slice (some ⟨b, o + m, none⟩) 4 (cap - m))).run Try.prog (wh.drewN q) = .ok (.string A) (wh.drewN q) := by rw [hA]; exact WIN.out m (cap - m) (by omega)
  have HBB := Lib.hid hB
  have hcm : ¬ cap - m = 0 := by omega
  have AB : Hid ((A.toList == B.toList) = decide ((bs.drop m).take 4 = [x, y, z, u])) := by
    unfold Hid; rw [hA, hB]; exact str_eq _ _
  clear hA hB SEP
  by_cases hat : (bs.drop m).take 4 = [x, y, z, u]
  · have hS : h0 = S := by
      have := HWIN.out
      rw [hat] at this
      simp only [List.cons.injEq, and_true] at this
      obtain ⟨rfl, rfl, rfl, rfl⟩ := this
      rw [HH0.out, HSS.out]
    have HAT : Hid (LastIs bs [x, y, z, u] m) := .inr ⟨m, rfl, ⟨by rw [HL.out]; omega, hat⟩, fun i hi ha => by have := ha.1; rw [HL.out] at this; omega⟩
    have heq : (h0 == S) = true := by rw [hS]; simp
    have hab : (A.toList == B.toList) = true := by rw [AB.out]; exact decide_eq_true hat
    clear hat hS AB
    go_quiet (fail)
    go_wp2_with fail
    go_ret
    exact ⟨⟨m, rfl, HAT.out⟩, Below.drewN (Below.refl _ _) _⟩
  · have HNO : Hid (∀ i, m ≤ i → ¬ atS bs i [x, y, z, u]) := fun i hi ha => by
      have h1 := ha.1; rw [HL.out] at h1
      have : i = m := by omega
      rw [this] at ha; exact hat ha.2
    have hab : (A.toList == B.toList) = false := by rw [AB.out]; exact decide_eq_false hat
    have HW0 : Hid (∃ a b c d, (bs.drop m).take 4 = [a, b, c, d] ∧ h0 = hR a b c d) := ⟨e0, e1, e2, e3, HWIN.out, HH0.out⟩
    clear hat AB HH0 HWIN
    have key : ∀ q0 : Nat, True := fun _ => trivial
    by_cases heq0 : h0 = S
    · have heq : (h0 == S) = true := by rw [heq0]; simp
      clear heq0
      go_quiet (fail)
      go_wp2_with fail
      go_loopw [9, 11] (fun h i wr => ∃ (j : Nat) (hv : Int), j ≤ m ∧ i = .int .i64 ((j : Int) - 1) ∧ h = .int .u32 hv ∧ Hid (∃ a b c d, (bs.drop j).take 4 = [a, b, c, d] ∧ hv = hR a b c d) ∧ Hid (∀ i, j ≤ i → ¬ atS bs i [x, y, z, u]) ∧ Hid (∃ q, wr = wh.drewN q)) (fun _ i _ => (intOf i + 1).toNat)
      case atStart => exact ⟨m, h0, Nat.le_refl _, rfl, rfl, HW0, HNO, Lib.hid ⟨_, rfl⟩⟩
      case round =>
        obtain ⟨j, hv, hj, rfl, rfl, HWJ, HNJ, HQ⟩ := hrel
        by_cases hj0 : 0 < j
        · obtain ⟨k, rfl⟩ : ∃ k, j = k + 1 := ⟨j - 1, by omega⟩
          have sk : ((k + 1 : Nat) : Int) - 1 = (k : Int) := by omega
          rw [sk]
          obtain ⟨a1, b1, c1, d1, hw1, hhv⟩ := HWJ.out
          obtain ⟨e1, a2, b2', c2, we, wa, wb, wc, hw2⟩ := window (bs := bs) (j := k) (by rw [HL.out]; omega)
          have g1 := part_get (i := 0) hw1 rfl
          have g2 := part_get (i := 1) hw1 rfl
          have g3 := part_get (i := 2) hw1 rfl
          have g4 := part_get (i := 3) hw1 rfl
          have ea : a2 = a1 := Option.some.inj (wa.symm.trans g1)
          have eb : b2' = b1 := Option.some.inj (wb.symm.trans g2)
          have ec : c2 = c1 := Option.some.inj (wc.symm.trans g3)
          subst ea; subst eb; subst ec
          have HRL := Lib.hid (hR_roll e1 a2 b2' c2 d1 hv hhv)
          have hvb := hR_lt a2 b2' c2 d1
          rw [← hhv] at hvb
          obtain ⟨q0, hq0⟩ := HQ.out
          have k0 : wr.cell? ⟨b, o + k, none⟩ = some (.int .u8 (byt e1)) := by rw [hq0]; exact HB.out _ _ we
          have k4 : wr.cell? ⟨b, o + (k + 4), none⟩ = some (.int .u8 (byt d1)) := by rw [hq0]; exact HB.out _ _ g4
          have n0 := byt_nonneg e1; have n1 := byt_nonneg d1
          have u0 := byt_lt e1; have u1 := byt_lt d1
          have HQ0 := Lib.hid hq0; have HW2 := Lib.hid hw2
          clear hw1 hw2 we wa wb wc g1 g2 g3 g4 hhv hq0 HWJ HQ
          obtain ⟨A1, hA1⟩ : ∃ A1 : ByteArray, A1 = ⟨((bs.drop k).take 4).toArray⟩ := ⟨_, rfl⟩
          have win1 : ∀ q, (convert 22 9 (.slice (some ⟨b, o + k, none⟩) 4 (cap - k))).run Try.prog (wr.drewN q) = .ok (.string A1) (wr.drewN q) := fun q => by
            rw [HQ0.out, World.drewN_drewN, hA1]; exact WIN.out k (cap - k) (by omega) _
          have sep1 : ∀ q, (convert 22 9 (.slice (some ⟨b2, o2, none⟩) 4 cap2)).run Try.prog (wr.drewN q) = .ok (.string B) (wr.drewN q) := fun q => by
            rw [HQ0.out, World.drewN_drewN]; exact sep _
          have AB1 : Hid ((A1.toList == B.toList) = decide ((bs.drop k).take 4 = [x, y, z, u])) := by
            unfold Hid; rw [hA1, HBB.out]; exact str_eq _ _
          have hck : ¬ cap - k = 0 := by omega
          obtain ⟨h1, hh1⟩ : ∃ h1, h1 = hR e1 a2 b2' c2 := ⟨_, rfl⟩
          have HH1 := Lib.hid hh1
          rw [← hh1] at HRL
          have hb1 := hR_lt e1 a2 b2' c2
          rw [← hh1] at hb1
          have HBQ : Hid (∀ n, Below wh.heap.size wh (wr.drewN n)) := fun n => by rw [HQ0.out, World.drewN_drewN]; exact Below.drewN (Below.refl _ _) _
          have HQN : Hid (∀ n, ∃ q, wr.drewN n = wh.drewN q) := fun n => by rw [HQ0.out, World.drewN_drewN]; exact ⟨_, rfl⟩
          clear hA1 hh1
          go_wp2_with fail
          rw [HRL.out]
          by_cases hat1 : (bs.drop k).take 4 = [x, y, z, u]
          · have hS : h1 = S := by
              have h3 := HW2.out
              rw [hat1] at h3
              simp only [List.cons.injEq, and_true] at h3
              obtain ⟨q1, q2, q3, q4⟩ := h3
              rw [HH1.out, HSS.out, q1, q2, q3, q4]
            have HAT : Hid (LastIs bs [x, y, z, u] k) := .inr ⟨k, rfl, ⟨by rw [HL.out]; omega, hat1⟩, fun i hi ha => HNJ.out i (by omega) ha⟩
            have heq1 : (h1 == S) = true := by rw [hS]; simp
            have hab1 : (A1.toList == B.toList) = true := by rw [AB1.out]; exact decide_eq_true hat1
            clear hat1 hS AB1
            go_quiet (fail)
            go_wp2_with fail
            go_ret
            exact ⟨⟨k, rfl, HAT.out⟩, HBQ.out _⟩
          · have HNK : Hid (∀ i, k ≤ i → ¬ atS bs i [x, y, z, u]) := fun i hi ha => by
              by_cases e : i = k
              · rw [e] at ha; exact hat1 ha.2
              · exact HNJ.out i (by omega) ha
            have hab1 : (A1.toList == B.toList) = false := by rw [AB1.out]; exact decide_eq_false hat1
            have HWK : Hid (∃ a b c d, (bs.drop k).take 4 = [a, b, c, d] ∧ h1 = hR a b c d) := ⟨e1, a2, b2', c2, HW2.out, HH1.out⟩
            clear hat1 AB1
            by_cases heq1' : h1 = S
            · have heq1 : (h1 == S) = true := by rw [heq1']; simp
              clear heq1'
              go_quiet (fail)
              go_wp2_with fail
              go_roundw
              case rel => exact ⟨k, h1, by omega, rfl, rfl, HWK, HNK, Lib.hid (HQN.out _)⟩
              case measure => simp [intOf]
            · have heq1 : (h1 == S) = false := by rw [beq_eq_false_iff_ne]; exact heq1'
              clear heq1'
              go_quiet (fail)
              go_wp2_with fail
              go_roundw
              case rel => exact ⟨k, h1, by omega, rfl, rfl, HWK, HNK, Lib.hid (HQN.out _)⟩
              case measure => simp [intOf]
        · have hjz : j = 0 := by omega
          subst hjz
          have HR : Hid (LastIs bs [x, y, z, u] (-1)) := .inl ⟨rfl, fun i => HNJ.out i (Nat.zero_le _)⟩
          have HBL : Hid (Below wh.heap.size wh wr) := by obtain ⟨q, rfl⟩ := HQ.out; exact Below.drewN (Below.refl _ _) _
          clear HWJ HNJ HQ
          go_wp2_with fail
          go_ret
          exact ⟨⟨-1, rfl, HR.out⟩, HBL.out⟩
    · have heq : (h0 == S) = false := by rw [beq_eq_false_iff_ne]; exact heq0
      clear heq0
      go_quiet (fail)
      go_wp2_with fail
      go_loopw [9, 11] (fun h i wr => ∃ (j : Nat) (hv : Int), j ≤ m ∧ i = .int .i64 ((j : Int) - 1) ∧ h = .int .u32 hv ∧ Hid (∃ a b c d, (bs.drop j).take 4 = [a, b, c, d] ∧ hv = hR a b c d) ∧ Hid (∀ i, j ≤ i → ¬ atS bs i [x, y, z, u]) ∧ Hid (∃ q, wr = wh.drewN q)) (fun _ i _ => (intOf i + 1).toNat)
      case atStart => exact ⟨m, h0, Nat.le_refl _, rfl, rfl, HW0, HNO, Lib.hid ⟨_, rfl⟩⟩
      case round =>
        obtain ⟨j, hv, hj, rfl, rfl, HWJ, HNJ, HQ⟩ := hrel
        by_cases hj0 : 0 < j
        · obtain ⟨k, rfl⟩ : ∃ k, j = k + 1 := ⟨j - 1, by omega⟩
          have sk : ((k + 1 : Nat) : Int) - 1 = (k : Int) := by omega
          rw [sk]
          obtain ⟨a1, b1, c1, d1, hw1, hhv⟩ := HWJ.out
          obtain ⟨e1, a2, b2', c2, we, wa, wb, wc, hw2⟩ := window (bs := bs) (j := k) (by rw [HL.out]; omega)
          have g1 := part_get (i := 0) hw1 rfl
          have g2 := part_get (i := 1) hw1 rfl
          have g3 := part_get (i := 2) hw1 rfl
          have g4 := part_get (i := 3) hw1 rfl
          have ea : a2 = a1 := Option.some.inj (wa.symm.trans g1)
          have eb : b2' = b1 := Option.some.inj (wb.symm.trans g2)
          have ec : c2 = c1 := Option.some.inj (wc.symm.trans g3)
          subst ea; subst eb; subst ec
          have HRL := Lib.hid (hR_roll e1 a2 b2' c2 d1 hv hhv)
          have hvb := hR_lt a2 b2' c2 d1
          rw [← hhv] at hvb
          obtain ⟨q0, hq0⟩ := HQ.out
          have k0 : wr.cell? ⟨b, o + k, none⟩ = some (.int .u8 (byt e1)) := by rw [hq0]; exact HB.out _ _ we
          have k4 : wr.cell? ⟨b, o + (k + 4), none⟩ = some (.int .u8 (byt d1)) := by rw [hq0]; exact HB.out _ _ g4
          have n0 := byt_nonneg e1; have n1 := byt_nonneg d1
          have u0 := byt_lt e1; have u1 := byt_lt d1
          have HQ0 := Lib.hid hq0; have HW2 := Lib.hid hw2
          clear hw1 hw2 we wa wb wc g1 g2 g3 g4 hhv hq0 HWJ HQ
          obtain ⟨A1, hA1⟩ : ∃ A1 : ByteArray, A1 = ⟨((bs.drop k).take 4).toArray⟩ := ⟨_, rfl⟩
          have win1 : ∀ q, (convert 22 9 (.slice (some ⟨b, o + k, none⟩) 4 (cap - k))).run Try.prog (wr.drewN q) = .ok (.string A1) (wr.drewN q) := fun q => by
            rw [HQ0.out, World.drewN_drewN, hA1]; exact WIN.out k (cap - k) (by omega) _
          have sep1 : ∀ q, (convert 22 9 (.slice (some ⟨b2, o2, none⟩) 4 cap2)).run Try.prog (wr.drewN q) = .ok (.string B) (wr.drewN q) := fun q => by
            rw [HQ0.out, World.drewN_drewN]; exact sep _
          have AB1 : Hid ((A1.toList == B.toList) = decide ((bs.drop k).take 4 = [x, y, z, u])) := by
            unfold Hid; rw [hA1, HBB.out]; exact str_eq _ _
          have hck : ¬ cap - k = 0 := by omega
          obtain ⟨h1, hh1⟩ : ∃ h1, h1 = hR e1 a2 b2' c2 := ⟨_, rfl⟩
          have HH1 := Lib.hid hh1
          rw [← hh1] at HRL
          have hb1 := hR_lt e1 a2 b2' c2
          rw [← hh1] at hb1
          have HBQ : Hid (∀ n, Below wh.heap.size wh (wr.drewN n)) := fun n => by rw [HQ0.out, World.drewN_drewN]; exact Below.drewN (Below.refl _ _) _
          have HQN : Hid (∀ n, ∃ q, wr.drewN n = wh.drewN q) := fun n => by rw [HQ0.out, World.drewN_drewN]; exact ⟨_, rfl⟩
          clear hA1 hh1
          go_wp2_with fail
          rw [HRL.out]
          by_cases hat1 : (bs.drop k).take 4 = [x, y, z, u]
          · have hS : h1 = S := by
              have h3 := HW2.out
              rw [hat1] at h3
              simp only [List.cons.injEq, and_true] at h3
              obtain ⟨q1, q2, q3, q4⟩ := h3
              rw [HH1.out, HSS.out, q1, q2, q3, q4]
            have HAT : Hid (LastIs bs [x, y, z, u] k) := .inr ⟨k, rfl, ⟨by rw [HL.out]; omega, hat1⟩, fun i hi ha => HNJ.out i (by omega) ha⟩
            have heq1 : (h1 == S) = true := by rw [hS]; simp
            have hab1 : (A1.toList == B.toList) = true := by rw [AB1.out]; exact decide_eq_true hat1
            clear hat1 hS AB1
            go_quiet (fail)
            go_wp2_with fail
            go_ret
            exact ⟨⟨k, rfl, HAT.out⟩, HBQ.out _⟩
          · have HNK : Hid (∀ i, k ≤ i → ¬ atS bs i [x, y, z, u]) := fun i hi ha => by
              by_cases e : i = k
              · rw [e] at ha; exact hat1 ha.2
              · exact HNJ.out i (by omega) ha
            have hab1 : (A1.toList == B.toList) = false := by rw [AB1.out]; exact decide_eq_false hat1
            have HWK : Hid (∃ a b c d, (bs.drop k).take 4 = [a, b, c, d] ∧ h1 = hR a b c d) := ⟨e1, a2, b2', c2, HW2.out, HH1.out⟩
            clear hat1 AB1
            by_cases heq1' : h1 = S
            · have heq1 : (h1 == S) = true := by rw [heq1']; simp
              clear heq1'
              go_quiet (fail)
              go_wp2_with fail
              go_roundw
              case rel => exact ⟨k, h1, by omega, rfl, rfl, HWK, HNK, Lib.hid (HQN.out _)⟩
              case measure => simp [intOf]
            · have heq1 : (h1 == S) = false := by rw [beq_eq_false_iff_ne]; exact heq1'
              clear heq1'
              go_quiet (fail)
              go_wp2_with fail
              go_roundw
              case rel => exact ⟨k, h1, by omega, rfl, rfl, HWK, HNK, Lib.hid (HQN.out _)⟩
              case measure => simp [intOf]
        · have hjz : j = 0 := by omega
          subst hjz
          have HR : Hid (LastIs bs [x, y, z, u] (-1)) := .inl ⟨rfl, fun i => HNJ.out i (Nat.zero_le _)⟩
          have HBL : Hid (Below wh.heap.size wh wr) := by obtain ⟨q, rfl⟩ := HQ.out; exact Below.drewN (Below.refl _ _) _
          clear HWJ HNJ HQ
          go_wp2_with fail
          go_ret
          exact ⟨⟨-1, rfl, HR.out⟩, HBL.out⟩
end Go.Proofs.Ytgapahmjcladlaa
