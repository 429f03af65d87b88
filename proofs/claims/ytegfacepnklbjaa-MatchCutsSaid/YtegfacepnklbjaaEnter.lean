/- Places are put into the finder's chains: what the call does. -/
import Derived.Test.YtegfacepnklbjaaFin
import Derived.Deep.RegionLaw
namespace Go.Proofs.Ytegfacepnklbjaa
open Go.RowKit Go.Maps
set_option linter.unusedVariables false

def nxOf (w : World) (F : Nat) : Nat := match w.cell? ⟨F, 6, none⟩ with
  | some (.int _ v) => v.toNat
  | _ => 0
theorem cell_of_blk {w : World} {g : Nat} {cs : Array Value} {e : Nat} {fr : Nat × Nat} {u : Value} (h : w.heap[g]? = some (.cells cs e fr)) (i : Nat) (hu : cs[i]? = some u) : w.cell? ⟨g, i, none⟩ = some u := by
  rw [cell_of_row w g i cs e fr h, hu]
theorem frozen_of_blk {w : World} {g : Nat} {cs : Array Value} {e : Nat} (h : w.heap[g]? = some (.cells cs e (0, 0))) (i : Nat) : w.frozen? ⟨g, i, none⟩ = false := by
  simp [World.frozen?, h]

theorem Fin.nx {w : World} {F M V b o n cap : Nat} {bs : List UInt8} {ch en : Nat} {lz : Bool} {nx : Nat} (h : Fin w F M V b o n cap bs ch en lz nx) : nxOf w F = nx := by
  unfold nxOf; rw [cell_of_blk h.blk 6 rfl]; simp
theorem Fin.ne {w : World} {F M V b o n cap : Nat} {bs : List UInt8} {ch en : Nat} {lz : Bool} {nx : Nat} (h : Fin w F M V b o n cap bs ch en lz nx) : F ≠ M ∧ F ≠ V ∧ M ≠ V := by
  obtain ⟨cur, h1, _⟩ := h.prev
  obtain ⟨D, m, ⟨es, ck, h2, _⟩, _⟩ := h.map
  have h3 := h.blk
  refine ⟨fun e => ?_, fun e => ?_, fun e => ?_⟩
  · rw [e, h2] at h3; simp at h3
  · rw [e, h1] at h3; simp at h3
  · rw [e, h1] at h2; simp at h2
theorem Fin.store {w : World} {F M V b o n cap : Nat} {bs : List UInt8} {ch en : Nat} {lz : Bool} {nx : Nat} (h : Fin w F M V b o n cap bs ch en lz nx) (k y : Nat) (hk : k < n) (hy : y ≤ k) : Fin (w.setCell ⟨V, k, none⟩ (.int .i64 y)) F M V b o n cap bs ch en lz nx := by
  obtain ⟨n1, n2, n3⟩ := h.ne
  obtain ⟨a1, a2, a3⟩ := h.apart
  obtain ⟨cur, h1, h2, h3⟩ := h.prev
  obtain ⟨D, m, h4, h5, h6⟩ := h.map
  refine ⟨?_, ⟨cur.setIfInBounds k (.int .i64 y), heap_setCell_same w V k cur 3 _ h1, by simpa using h2, fun i hi => ?_⟩, ⟨D, m, ?_, h5, h6⟩, fun i c hi => ?_, h.apart, h.le⟩
  · rw [heap_setCell_other w ⟨V, k, none⟩ F _ n2]; exact h.blk
  · by_cases e : i = k
    · subst e; exact ⟨y, by simp [h2, hi], hy⟩
    · obtain ⟨c, h7, h8⟩ := h3 i hi
      exact ⟨c, by rw [Array.getElem?_setIfInBounds_ne (fun h => e h.symm)]; exact h7, h8⟩
  · exact h4.setCell (a := ⟨V, k, none⟩) n3 _
  · have := h.lie i c hi
    rw [World.cell?_of_block (w := w) (heap_setCell_other w ⟨V, k, none⟩ b _ a3)]; exact this
theorem Fin.step {w w1 : World} {F M V b o n cap : Nat} {bs : List UInt8} {ch en : Nat} {lz : Bool} {k m : Nat} {D : DataW Unit} (h : Fin w F M V b o n cap bs ch en lz k) (hk : k + 1 ≤ n) (hg : w.grownBy w1 (some M))
    (hM : w1.ownsMap Try.prog 55 (plainElem Try.prog 3) M m D) (hm : m ≤ k + 1) (hH : Heads bs D (k + 1)) : Fin (w1.setCell ⟨F, 6, none⟩ (.int .i64 ((k : Int) + 1))) F M V b o n cap bs ch en lz (k + 1) := by
  obtain ⟨n1, n2, n3⟩ := h.ne
  obtain ⟨a1, a2, a3⟩ := h.apart
  obtain ⟨cur, h1, h2, h3⟩ := h.prev
  have hF := hg.block F (Array.getElem?_eq_some_iff.1 h.blk).1 (fun e => n1 (by injection e))
  have hV := hg.block V (Array.getElem?_eq_some_iff.1 h1).1 (fun e => n3 (by injection e with e; exact e.symm))
  rw [h.blk] at hF
  rw [h1] at hV
  refine ⟨?_, ⟨cur, ?_, h2, h3⟩, ⟨D, m, ?_, hm, hH⟩, fun i c hi => ?_, h.apart, hk⟩
  · rw [heap_setCell_same w1 F 6 _ 48 _ hF]; rfl
  · rw [heap_setCell_other w1 ⟨F, 6, none⟩ V _ (fun e => n2 e.symm)]; exact hV
  · exact hM.setCell (a := ⟨F, 6, none⟩) (fun e => n1 e.symm) _
  · have := h.lie i c hi
    rw [World.cell?_of_block (w := w1) (heap_setCell_other w1 ⟨F, 6, none⟩ b _ a1), World.cell?_of_block (w := w) (hg.block b (block_lt_of_cell this) (fun e => a2 (by injection e)))]; exact this

set_option maxRecDepth 100000 in
set_option maxHeartbeats 2000000 in
theorem enter_any (F M V b o n cap ch en : Nat) (lz : Bool) (bs : List UInt8) (nx p : Nat) (hl : bs.length = n) (hn : n ≤ 1099511627776) (hcap : n ≤ cap) (hp : p + 3 ≤ n) (hnp : nx ≤ p) (w : World) (hf : Fin w F M V b o n cap bs ch en lz nx) :
    Calls Try.prog 21 #[.pointer (some ⟨F, 0, none⟩), .int .i64 p] w fun e w' => e = .returned (.tuple #[]) ∧ Fin w' F M V b o n cap bs ch en lz p ∧ Tur w w' F M V := by
  have HL := Lib.hid hl; have HF := Lib.hid hf
  clear hl hf
  go_enter Try.func21, Try.ntmps21
  go_wp2_with fail
  go_loopw [4] (fun _ wr => ∃ (k : Nat), k ≤ p ∧ Hid (Fin wr F M V b o n cap bs ch en lz k) ∧ Tur w wr F M V) (fun _ wr => n - nxOf wr F)
  case atStart => exact ⟨nx, hnp, HF, Tur.refl _ _ _ _⟩
  case round =>
    clear HF
    obtain ⟨k, hk, HF, hT⟩ := hrel
    have HX : Hid (nxOf wr F = k) := HF.out.nx
    have d0 := cell_of_blk HF.out.blk 0 rfl
    have d6 := cell_of_blk HF.out.blk 6 rfl
    by_cases hlt : k < p
    · have i1 : (k : Int) < (p : Int) := by omega
      have i2 : (k : Int) + 3 ≤ (n : Int) := by omega
      go_wp2_with fail
      go_quiet (fail)
      go_wp2_with fail
      have HF1 := Lib.hid (HF.out.drewN nq)
      have HT1 : Hid (Tur w (wr.drewN nq) F M V) := hT.trans (Tur.of_below _ _ _ (Below.drewN (Below.refl _ _) _))
      clear HF hT d0 d6
      generalize wr.drewN nq = w1 at HF1 HT1 ⊢
      obtain ⟨c0, c1, c2, hc0, hc1, hc2, htr⟩ := HF1.out.bytes (p := k) (by rw [HL.out]; omega)
      refine (three_at F b o n cap k c0 c1 c2 (by omega) hn hcap w1 (cell_of_blk HF1.out.blk 0 rfl) hc0 hc1 hc2).mono ?_
      rintro e w2 ⟨rfl, ⟨nq2, rfl⟩⟩
      rw [htr]
      have HF2 := Lib.hid (HF1.out.drewN nq2)
      have HT2 : Hid (Tur w (w1.drewN nq2) F M V) := HT1.out.trans (Tur.of_below _ _ _ (Below.drewN (Below.refl _ _) _))
      clear HF1 HT1 hc0 hc1 hc2 htr
      generalize w1.drewN nq2 = w2 at HF2 HT2 ⊢
      have d4 := cell_of_blk HF2.out.blk 4 rfl
      have d5 := cell_of_blk HF2.out.blk 5 rfl
      have d6 := cell_of_blk HF2.out.blk 6 rfl
      obtain ⟨cur, hV, hVs, hVi⟩ := HF2.out.prev
      obtain ⟨D, m, hM, hm, hH⟩ := HF2.out.map
      obtain ⟨x, hx, hx2⟩ := hVi k (by omega)
      have d7 := cell_of_blk hV k hx
      have f7 := frozen_of_blk hV k
      have hkey : keyOf Try.prog 55 (.int .u32 (triAt bs k)) = some (keyA (triAt bs k)) := keyOf_int_mk Try.underlying55 (tri_wf _ _ _)
      obtain ⟨c, hrun, hat, hwc⟩ := (hM.drew).lookup_int keyed55 Try.underlying45 Try.underlying3 (zero3 _) hkey
      obtain ⟨y, rfl, hy, _⟩ := hH.at hat
      have HV := Lib.hid hV; have HVS := Lib.hid hVs; have HVI := Lib.hid hVi; have HM := Lib.hid hM; have HH := Lib.hid hH
      clear hat hwc hkey hV hVs hVi hM hH hx hx2
      have i3 : (k : Int) < (n : Int) := by omega
      have i4 : (0 : Int) ≤ (k : Int) := by omega
      go_wp2_with fail
      go_region
      have HF3 := Lib.hid (HF2.out.store k y (by omega) hy).drew
      have HT3 : Hid (Tur w (w2.setCell ⟨V, k, none⟩ (.int .i64 y)).drew F M V) := (HT2.out.trans (Tur.of_set _ _ (.inr (.inr rfl)))).trans (Tur.of_below _ _ _ (Below.drew (Below.refl _ _)))
      clear HF2 HT2 HV HVS HVI HM HH hrun d4 d5 d6 d7 f7 hy
      generalize (w2.setCell ⟨V, k, none⟩ (.int .i64 y)).drew = w3 at HF3 HT3 ⊢
      have d4 := cell_of_blk HF3.out.blk 4 rfl
      have d6 := cell_of_blk HF3.out.blk 6 rfl
      obtain ⟨D, m, hM, hm, hH⟩ := HF3.out.map
      have hkey : keyOf Try.prog 55 (.int .u32 (triAt bs k)) = some (keyA (triAt bs k)) := keyOf_int_mk Try.underlying55 (tri_wf _ _ _)
      have hkn : k < n := by omega
      obtain ⟨w4, hrun, hM4, hg4⟩ := (hM.drew).update keyed55 Try.underlying45 (by unfold maxLen; omega) hkey (val := .int .i64 ((k : Int) + 1)) (plainElem_int Try.underlying3 (by simp [Lit.wf, IntKind.min, IntKind.max, IntKind.signed, IntKind.bits]; omega))
      have HF5 : Hid (Fin (w4.setCell ⟨F, 6, none⟩ (.int .i64 ((k : Int) + 1))) F M V b o n cap bs ch en lz (k + 1)) := HF3.out.drew.step hkn hg4 hM4 (by omega) (hH.put hM.isMap)
      have HT4 : Hid (Tur w w4 F M V) := (HT3.out.trans (Tur.of_below _ _ _ (Below.drew (Below.refl _ _)))).trans (Tur.of_grown hg4 (.inr (.inl rfl)))
      have hb4 : w4.heap[F]? = some (.cells #[.slice (some ⟨b, o, none⟩) n cap, .int .i64 ch, .int .i64 en, .bool lz, .map (some M), .slice (some ⟨V, 0, none⟩) n n, .int .i64 k] 48 (0, 0)) := by
        rw [hg4.block F (Array.getElem?_eq_some_iff.1 HF3.out.blk).1 (fun e => HF3.out.ne.1 (by injection e))]; exact HF3.out.blk
      have e6 := cell_of_blk hb4 6 rfl
      have g6 := frozen_of_blk hb4 6
      have HB4 := Lib.hid hb4
      clear hM hm hH hkey hM4 hg4 hb4
      go_wp2_with fail
      go_region
      go_wp2_with fail
      go_roundw
      case rel => exact ⟨k + 1, by omega, HF5, HT4.out.trans (Tur.of_set _ _ (.inl rfl))⟩
      case measure => rw [HX.out, HF5.out.nx]; omega
    · have hkp : k = p := by omega
      rw [hkp] at HF
      clear hkp HX
      go_wp2_with fail
      go_quiet (fail)
      go_wp2_with fail
      go_end0
      exact ⟨rfl, HF.out.drewN _, hT.trans (Tur.of_below _ _ _ (Below.drewN (Below.refl _ _) _))⟩
end Go.Proofs.Ytegfacepnklbjaa
