/- Rows of kinds that the call makes: words and the law of append. -/
import Derived.Test.YtgapahmjcladlaaPl
namespace Go.Proofs.Ytgapahmjcladlaa
open Go.RowKit
set_option linter.unusedVariables false

def ival (k : Int) : Value := .int .i64 k
/-- The slice v owns ints, in a block from B on. -/
def OwnI (w : World) (B : Nat) (v : Value) (ks : List Int) : Prop := w.ownsRow B 26 1 v ks.length (ks.map ival)
theorem OwnI.below {w w' : World} {B : Nat} {v : Value} {ks : List Int} (h : OwnI w B v ks) (hb : Below w.heap.size w w') : OwnI w' B v ks := by
  unfold OwnI at h ⊢
  refine ⟨h.1, ?_⟩
  rcases h.2 with h2 | ⟨g, cap, cur, hv, hg, hh, r⟩
  · exact .inl h2
  · exact .inr ⟨g, cap, cur, hv, hg, by rw [hb.block g (Array.getElem?_eq_some_iff.1 hh).1]; exact hh, r⟩
theorem OwnI.form {w : World} {B : Nat} {v : Value} {ks : List Int} (h : OwnI w B v ks) : ∃ ao cap, v = .slice ao ks.length cap := by
  rcases h.2 with ⟨hv, h0⟩ | ⟨g, cap, cur, hv, _⟩
  · exact ⟨none, 0, by rw [hv, h0]⟩
  · exact ⟨_, cap, hv⟩
theorem OwnI.lit (w : World) : OwnI (w.alloc (.cells #[] 26)) w.heap.size (.slice (some ⟨w.heap.size, 0, none⟩) 0 0) [] := by
  have := World.ownsRow_lit (e := 26) (size := 1) w #[] 0 (Nat.le_refl _) (by unfold maxLen; omega) rfl
  exact this
theorem OwnI.ints {w : World} {B n cap : Nat} {ao : Option Addr} {ks : List Int} (h : OwnI w B (.slice ao n cap) ks) : Ints w ao ks := by
  have h10 := h
  rcases h.2 with ⟨hv, h0⟩ | ⟨g, cap', cur, hv, hg, hh, hle, hm, hs, hx⟩
  · exact .inl (List.length_eq_zero_iff.1 h0)
  · simp only [Value.slice.injEq] at hv
    obtain ⟨rfl, _, _⟩ := hv
    refine .inr ⟨g, 0, rfl, fun i c hi => ?_⟩
    have := World.ownsRow.cells h10 rfl i (ival c) (by rw [List.getElem?_map, hi]; rfl)
    rw [plain_add, Nat.zero_add] at this
    rw [Nat.zero_add]
    exact this
theorem info26 : (Try.prog.info? 26).map (fun i => (i.zero, i.size, i.bytes)) = some (some (.int .i64 0), 1, 8) := by kernel_rfl
/-- A kind is appended to a row that the call owns. -/
theorem wpList_append_int {P : Program} {ops : Array Oper} {rest : List Oper} {o : Oper} {a : Act} {w : World} {Q : Exit → Act → World → Prop} (hgd : o.guard = none) (s x : Operand) (t : TypeId)
    (ho : o.op = .call { callee := .builtin .append, args := #[s, x], argTypes := #[t, t] }) (ht : P.underlying t = some (.slice 26))
    (hinfo : (P.info? 26).map (fun i => (i.zero, i.size, i.bytes)) = some (some (.int .i64 0), 1, 8))
    (B : Nat) (v : Value) (ks : List Int) (k : Int) (b : Nat) (c : Nat) (hs : a.eval s = v) (hown : OwnI w B v ks) (hx : a.eval x = .slice (some ⟨b, 0, none⟩) 1 c)
    (c0 : w.cell? ⟨b, 0, none⟩ = some (.int .i64 k)) (hlen : ks.length + 1 ≤ 1099511627776) (hB : B ≤ w.heap.size)
    (h : ∀ v' w', OwnI w' B v' (ks ++ [k]) → w.grownBy w' v.ownBlock → Below B w w' → wpList P ops Q rest (a.put o.dst v') w') : wpList P ops Q (o :: rest) a w := by
  obtain ⟨i0, hi, hz0, hz1, hz2⟩ := info_parts hinfo
  have hadd : ∀ j, (⟨b, 0, none⟩ : Addr).add j = ⟨b, 0 + j, none⟩ := fun j => by unfold Addr.add; split <;> simp_all
  refine wpList_append_own _ hgd s x t ho B 26 i0 (.int .i64 0) 1 8 ht hi hz0 hz1 hz2 rfl (by decide) v ks.length (ks.map ival) hs hown ⟨b, 0, none⟩ 1 c [.int .i64 k] hx rfl (fun j y hj => ?_) (fun y hy => ?_) (by unfold maxLen; omega) (by omega) hB ?_
  · rw [hadd, Nat.zero_add]
    match j with
    | 0 => simp at hj; rw [c0, hj]
    | n + 1 => simp at hj
  · simp at hy; subst hy; rfl
  intro v' w' h4 h5 _
  refine h v' w' ?_ h5 (below_of_grown h5 hB (own_block hown))
  unfold OwnI
  rw [List.length_append, List.map_append]
  exact h4
theorem ints_of_cells {w : World} {x : Addr} {len cap : Nat} {zs : List Int} (hl : len ≤ cap) (hm : cap ≤ maxLen) (hz : zs.length = cap)
    (hcell : ∀ i, i < zs.length → w.cell? (x.add i) = some (.int .i64 (zs.getD i 0))) :
    ∃ ks : List Int, ks.length = len ∧ len ≤ maxLen ∧ Ints w (some x) ks := by
  refine ⟨zs.take len, by simp; omega, by omega, ?_⟩
  by_cases h0 : len = 0
  · subst h0; exact .inl (by simp)
  · obtain ⟨b, o, spot⟩ := x
    have hc := hcell 0 (by omega)
    have hspot : spot = none := by simpa [Addr.add] using World.cell?_spot hc
    subst hspot
    refine .inr ⟨b, o, rfl, fun i c hi => ?_⟩
    have hil : i < len := by
      rcases Nat.lt_or_ge i len with h | h
      · exact h
      · rw [List.getElem?_eq_none (by simp; omega)] at hi; simp at hi
    rw [List.getElem?_take, if_pos hil] at hi
    have hcc := hcell i (by omega)
    have hadd : (⟨b, o, none⟩ : Addr).add i = ⟨b, o + i, none⟩ := by unfold Addr.add; split <;> simp_all
    rw [← hadd, hcc, List.getD_eq_getElem?_getD, hi]; rfl
end Go.Proofs.Ytgapahmjcladlaa
