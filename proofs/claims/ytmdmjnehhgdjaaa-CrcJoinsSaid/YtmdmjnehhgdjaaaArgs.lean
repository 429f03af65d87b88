/- An argument's bytes, out of what the reading gives. -/
import Derived.Test.YtmdmjnehhgdjaaaAlive
namespace Go.Proofs.Ytmdmjnehhgdjaaa
open Go.RowKit Math

theorem bytes_of_cells {w : World} {x : Addr} {len cap : Nat} {zs : List Int} (hl : len ≤ cap) (hm : cap ≤ maxLen) (hz : zs.length = cap)
    (hcell : ∀ i, i < zs.length → w.cell? (x.add i) = some (.int .u8 (zs.getD i 0))) (hwz : ∀ n ∈ zs, (Lit.int .u8 n).wf = true) :
    ∃ bs : List UInt8, bs.length = len ∧ len ≤ maxLen ∧ Bytes w (some x) bs := by
  refine ⟨(zs.take len).map fun z => UInt8.ofNat z.toNat, by simp; omega, by omega, ?_⟩
  by_cases h0 : len = 0
  · subst h0; exact .inl (by simp)
  · obtain ⟨b, o, spot⟩ := x
    have hc := hcell 0 (by omega)
    have hspot : spot = none := by simpa [Addr.add] using World.cell?_spot hc
    subst hspot
    refine .inr ⟨b, o, rfl, fun i c hi => ?_⟩
    rw [List.getElem?_map] at hi
    have hil : i < len := by
      rcases Nat.lt_or_ge i len with h | h
      · exact h
      · rw [List.getElem?_eq_none (by simp; omega)] at hi; simp at hi
    rw [List.getElem?_take, if_pos hil, List.getElem?_eq_getElem (by omega)] at hi
    have hi : UInt8.ofNat (zs[i]'(by omega)).toNat = c := by simpa using hi
    have hcc := hcell i (by omega)
    have hw := hwz (zs[i]'(by omega)) (List.getElem_mem _)
    have hbd : 0 ≤ zs[i]'(by omega) ∧ zs[i]'(by omega) < 256 := by
      have e1 : IntKind.u8.min = 0 := rfl
      have e2 : IntKind.u8.max = 255 := rfl
      simp [Lit.wf] at hw
      omega
    have hadd : (⟨b, o, none⟩ : Addr).add i = ⟨b, o + i, none⟩ := by unfold Addr.add; split <;> simp_all
    rw [← hi, byt_of _ hbd.1 hbd.2, ← hadd, hcc]
    congr 2
    rw [List.getD_eq_getElem?_getD, List.getElem?_eq_getElem (by omega)]; rfl
end Go.Proofs.Ytmdmjnehhgdjaaa
