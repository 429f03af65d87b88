/- Fields' bytes: what the call computes. -/
import Derived.Test.YtgapahmjcladlaaRead
namespace Go.Proofs.Ytgapahmjcladlaa
open Go.RowKit
set_option linter.unusedVariables false

/-- Fields that lie in memory. -/
def Fs (L : Nat) (w : World) (fa : Option Addr) (fs : List Fl) : Prop := ∀ i f, fs[i]? = some f →
  ∃ g, fa = some ⟨g, 0, none⟩ ∧ w.cell? ⟨g, i * 3, none⟩ = some (.int .i64 f.kind) ∧ w.cell? ⟨g, i * 3 + 1, none⟩ = some (.int .i64 f.n) ∧ ∃ v, w.cell? ⟨g, i * 3 + 2, none⟩ = some v ∧ Bv L w v f.b
theorem Fs.below {L : Nat} {w w' : World} {fa : Option Addr} {fs : List Fl} (h : Fs L w fa fs) (hb : Below w.heap.size w w') : Fs L w' fa fs := fun i f hi => by
  obtain ⟨g, h1, h2, h3, v, h4, h5⟩ := h i f hi
  exact ⟨g, h1, cell_at hb h2, cell_at hb h3, v, cell_at hb h4, h5.below hb⟩
theorem OwnF.fs {L : Nat} {w : World} {B e : Nat} {ao : Option Addr} {n cap : Nat} {fs : List Fl} (h : OwnF L w B e (.slice ao n cap) fs) : Fs L w ao fs := fun i f hi => h.at hi
/-- A field's bytes. -/
def encF (f : Fl) : List UInt8 := if f.kind = 0 then leB f.n 2 else if f.kind = 1 then leB f.n 4 else if f.kind = 2 ∨ f.kind = 3 then f.b else []
def writeV : List Fl → List UInt8
  | [] => []
  | f :: r => encF f ++ writeV r
theorem writeV_app (xs ys : List Fl) : writeV (xs ++ ys) = writeV xs ++ writeV ys := by
  induction xs with
  | nil => rfl
  | cons x r ih => simp only [List.cons_append, writeV, ih, List.append_assoc]
theorem writeV_take {fs : List Fl} {i : Nat} {f : Fl} (h : fs[i]? = some f) : writeV (fs.take (i + 1)) = writeV (fs.take i) ++ encF f := by
  rw [List.take_add_one, h, writeV_app]; simp [writeV]
theorem writeV_le (fs : List Fl) (i : Nat) : (writeV (fs.take i)).length ≤ (writeV fs).length := by
  have := writeV_app (fs.take i) (fs.drop i)
  rw [List.take_append_drop] at this
  rw [this, List.length_append]; omega

set_option maxRecDepth 100000 in
set_option maxHeartbeats 2000000 in
theorem write_any (L : Nat) (fa : Option Addr) (m mc : Nat) (fs : List Fl) (hl : fs.length = m) (hm : m ≤ 1099511627776) (hlen : (writeV fs).length ≤ 140737488355328) (hn : ∀ f ∈ fs, f.n < 4294967296) (w : World) (hf : Fs L w fa fs) :
    Calls Try.prog 12 #[.slice fa m mc] w fun e w' => ∃ v, e = .returned v ∧ OwnB w' w.heap.size 5 v (writeV fs) ∧ Below w.heap.size w w' := by
  have HL := Lib.hid hl; have HF := Lib.hid hf; have HLN := Lib.hid hlen; have HNN := Lib.hid hn
  clear hl hf hlen hn
  go_enter Try.func12, Try.ntmps12
  go_wp2_with fail
  go_loopw [3, 8] (fun v i wr => ∃ (k : Nat), k ≤ m ∧ i = .int .i64 k ∧ OwnB wr w.heap.size 5 v (writeV (fs.take k)) ∧ Below w.heap.size w wr) (fun _ i _ => m - (intOf i).toNat)
  case atStart => exact ⟨0, by omega, rfl, OwnB.nil _ _ _, Below.refl _ _⟩
  case round =>
    obtain ⟨k, hk, rfl, hO, hbw⟩ := hrel
    by_cases hlt : k < m
    · obtain ⟨f, hfk⟩ : ∃ f, fs[k]? = some f := ⟨fs[k]'(by have := HL.out; omega), List.getElem?_eq_getElem _⟩
      obtain ⟨g, rfl, c0, c1, v, c2, hv⟩ := (HF.out.below hbw) k f hfk
      obtain ⟨ad, vc, rfl, hvc, hvn, hvb⟩ := hv.bytes
      have hwt := Lib.hid (writeV_take hfk)
      have hwl : (writeV (fs.take (k + 1))).length ≤ 140737488355328 := Nat.le_trans (writeV_le fs _) HLN.out
      have hfn : f.n < 4294967296 := HNN.out f (List.mem_of_getElem? hfk)
      obtain ⟨ao, oc, rfl⟩ := hO.form'
      have i2 : (k : Int) < (m : Int) := by omega
      have HV := Lib.hid hvb; have HO := Lib.hid hO; have HB := Lib.hid hbw; have HVN := Lib.hid hvn; have HWL := Lib.hid hwl
      have hmul : (k : Int) * 3 = ((k * 3 : Nat) : Int) := by omega
      clear hfk hv hO hbw hvb hvn hwl
      have hblk := alloc_at wr (.cells #[.int .i64 f.kind, .int .i64 f.n, .slice ad f.b.length vc] 39)
      have hbl : Below wr.heap.size wr (wr.alloc (.cells #[.int .i64 f.kind, .int .i64 f.n, .slice ad f.b.length vc] 39)) := (Below.refl _ _).alloc (Nat.le_refl _) _
      obtain ⟨w2, hw2⟩ : ∃ x, x = wr.alloc (.cells #[.int .i64 f.kind, .int .i64 f.n, .slice ad f.b.length vc] 39) := ⟨_, rfl⟩
      rw [← hw2] at hblk hbl
      have HO2 := Lib.hid (HO.out.below hbl)
      have HV2 := Lib.hid (HV.out.below hbl)
      have HB2 := Lib.hid (below_step HB.out hbl)
      have HBK2 := Lib.hid hblk
      clear hblk hbl
      by_cases k0 : f.kind = 0
      · have he : Hid (writeV (fs.take (k + 1)) = writeV (fs.take k) ++ leB f.n 2) := by
          unfold Hid; rw [hwt.out]; unfold encF; rw [if_pos k0]
        rw [k0] at c0 HBK2 hw2
        go_wp2_with fail
        rw [← hw2]
        clear hw2
        refine (little_two f.n hfn w2).mono ?_
        rintro e w3 ⟨rfl, hL, hb3⟩
        have HO3 := Lib.hid (HO2.out.below hb3)
        have HB3 := Lib.hid (below_step HB2.out hb3)
        have HL3 := Lib.hid (hL.bytes' (leB_len _ _))
        have HWL2 : Hid ((writeV (fs.take k)).length + (leB f.n 2).length ≤ 140737488355328) := by unfold Hid; rw [← List.length_append, ← he.out]; exact HWL.out
        clear hL hb3
        go_wp2_with (at_builtin; go_loud (refine wpList_append_bytes rfl (.tmp 16) (.tmp 19) 22 5 rfl Try.underlying22 info5 w.heap.size _ (writeV (fs.take k)) (leB f.n 2) (some ⟨w2.heap.size, 0, none⟩) 2 2 rfl HO3.out rfl (leB_len _ _) HL3.out (fun h => by simp at h) HWL2.out HB3.out.size ?_))
        rintro v4 w4 hO4 hg4 hb4
        have HO4 : Hid (OwnB w4 w.heap.size 5 v4 (writeV (fs.take (k + 1)))) := by unfold Hid; rw [he.out]; exact hO4
        have HB4 := Lib.hid (HB3.out.trans hb4)
        clear hO4 hg4 hb4 HO3 HB3 HL3
        go_wp2_with fail
        go_roundw
        case rel => exact ⟨k + 1, by omega, by simp, HO4.out, HB4.out⟩
        case measure => simp [intOf]; omega
      by_cases k1 : f.kind = 1
      · have he : Hid (writeV (fs.take (k + 1)) = writeV (fs.take k) ++ leB f.n 4) := by
          unfold Hid; rw [hwt.out]; unfold encF; rw [if_neg k0, if_pos k1]
        rw [k1] at c0 HBK2 hw2
        go_wp2_with fail
        rw [← hw2]
        clear hw2
        refine (little_four f.n hfn w2).mono ?_
        rintro e w3 ⟨rfl, hL, hb3⟩
        have HO3 := Lib.hid (HO2.out.below hb3)
        have HB3 := Lib.hid (below_step HB2.out hb3)
        have HL3 := Lib.hid (hL.bytes' (leB_len _ _))
        have HWL2 : Hid ((writeV (fs.take k)).length + (leB f.n 4).length ≤ 140737488355328) := by unfold Hid; rw [← List.length_append, ← he.out]; exact HWL.out
        clear hL hb3
        go_wp2_with (at_builtin; go_loud (refine wpList_append_bytes rfl (.tmp 23) (.tmp 26) 22 5 rfl Try.underlying22 info5 w.heap.size _ (writeV (fs.take k)) (leB f.n 4) (some ⟨w2.heap.size, 0, none⟩) 4 4 rfl HO3.out rfl (leB_len _ _) HL3.out (fun h => by simp at h) HWL2.out HB3.out.size ?_))
        rintro v4 w4 hO4 hg4 hb4
        have HO4 : Hid (OwnB w4 w.heap.size 5 v4 (writeV (fs.take (k + 1)))) := by unfold Hid; rw [he.out]; exact hO4
        have HB4 := Lib.hid (HB3.out.trans hb4)
        clear hO4 hg4 hb4 HO3 HB3 HL3
        go_wp2_with fail
        go_roundw
        case rel => exact ⟨k + 1, by omega, by simp, HO4.out, HB4.out⟩
        case measure => simp [intOf]; omega
      by_cases k2 : f.kind = 2
      · have he : Hid (writeV (fs.take (k + 1)) = writeV (fs.take k) ++ f.b) := by
          unfold Hid; rw [hwt.out]; unfold encF; rw [if_neg k0, if_neg k1, if_pos (.inl k2)]
        rw [k2] at c0 HBK2 hw2
        have HWL2 : Hid ((writeV (fs.take k)).length + f.b.length ≤ 140737488355328) := by unfold Hid; rw [← List.length_append, ← he.out]; exact HWL.out
        rw [hw2] at HO2 HB2 HV2
        go_wp2_with (at_builtin; go_loud (refine wpList_append_bytes rfl (.tmp 31) (.tmp 33) 22 5 rfl Try.underlying22 info5 w.heap.size _ (writeV (fs.take k)) f.b ad f.b.length vc rfl HO2.out rfl rfl HV2.out HVN.out HWL2.out HB2.out.size ?_))
        rintro v4 w4 hO4 hg4 hb4
        have HO4 : Hid (OwnB w4 w.heap.size 5 v4 (writeV (fs.take (k + 1)))) := by unfold Hid; rw [he.out]; exact hO4
        have HB4 := Lib.hid (HB2.out.trans hb4)
        clear hO4 hg4 hb4 HO2 HB2 HV2
        go_wp2_with fail
        go_roundw
        case rel => exact ⟨k + 1, by omega, by simp, HO4.out, HB4.out⟩
        case measure => simp [intOf]; omega
      by_cases k3 : f.kind = 3
      · have he : Hid (writeV (fs.take (k + 1)) = writeV (fs.take k) ++ f.b) := by
          unfold Hid; rw [hwt.out]; unfold encF; rw [if_neg k0, if_neg k1, if_pos (.inr k3)]
        rw [k3] at c0 HBK2 hw2
        have HWL2 : Hid ((writeV (fs.take k)).length + f.b.length ≤ 140737488355328) := by unfold Hid; rw [← List.length_append, ← he.out]; exact HWL.out
        rw [hw2] at HO2 HB2 HV2
        go_wp2_with (at_builtin; go_loud (refine wpList_append_bytes rfl (.tmp 31) (.tmp 33) 22 5 rfl Try.underlying22 info5 w.heap.size _ (writeV (fs.take k)) f.b ad f.b.length vc rfl HO2.out rfl rfl HV2.out HVN.out HWL2.out HB2.out.size ?_))
        rintro v4 w4 hO4 hg4 hb4
        have HO4 : Hid (OwnB w4 w.heap.size 5 v4 (writeV (fs.take (k + 1)))) := by unfold Hid; rw [he.out]; exact hO4
        have HB4 := Lib.hid (HB2.out.trans hb4)
        clear hO4 hg4 hb4 HO2 HB2 HV2
        go_wp2_with fail
        go_roundw
        case rel => exact ⟨k + 1, by omega, by simp, HO4.out, HB4.out⟩
        case measure => simp [intOf]; omega
      have he : writeV (fs.take (k + 1)) = writeV (fs.take k) := by
        rw [hwt.out]; unfold encF; rw [if_neg k0, if_neg k1, if_neg (by omega), List.append_nil]
      have HO4 : Hid (OwnB w2 w.heap.size 5 (.slice ao (writeV (fs.take k)).length oc) (writeV (fs.take (k + 1)))) := by unfold Hid; rw [he]; exact HO2.out
      rw [hw2] at HO4 HB2
      go_wp2_with fail
      go_roundw
      case rel => exact ⟨k + 1, by omega, by simp, HO4.out, HB2.out⟩
      case measure => simp [intOf]; omega
    · have hkm : k = m := by omega
      have hft : fs.take k = fs := by rw [hkm, ← HL.out, List.take_length]
      rw [hft] at hO
      have HO := Lib.hid hO
      clear hO hft hkm
      go_wp2_with fail
      go_ret
      exact ⟨_, rfl, HO.out, hbw⟩
end Go.Proofs.Ytgapahmjcladlaa
