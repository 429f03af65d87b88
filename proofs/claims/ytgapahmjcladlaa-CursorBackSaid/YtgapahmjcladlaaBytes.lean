/- Rows of bytes in memory, and rows of bytes that a call owns: words and laws for the walks. No condition. -/
import Derived.WalkKit
import Derived.WalkSpells
import Derived.WalkSmall
import Derived.Laws.AppendOwnNone
import Derived.RangeFuncBox
import Derived.Lib.Hide
namespace Go.Proofs.Ytgapahmjcladlaa
open Go.RowKit
set_option linter.unusedVariables false

/-- A byte as an integer; closed to the walk's simp. -/
def byt (c : UInt8) : Int := c.toNat
theorem byt_nonneg (c : UInt8) : 0 ≤ byt c := by unfold byt; omega
theorem byt_lt (c : UInt8) : byt c < 256 := by unfold byt; have := c.toNat_lt; omega
theorem byt_inj {a b : UInt8} (h : byt a = byt b) : a = b := by unfold byt at h; exact UInt8.toNat_inj.1 (by omega)
theorem byt_of (n : Int) (h0 : 0 ≤ n) (h1 : n < 256) : byt (UInt8.ofNat n.toNat) = n := by
  unfold byt; rw [UInt8.toNat_ofNat_of_lt' (by show n.toNat < 256; omega)]; omega

/-- Bytes that lie in memory: none; or from an address on. -/
def Bytes (w : World) (a : Option Addr) (bs : List UInt8) : Prop :=
  bs = [] ∨ ∃ b o, a = some ⟨b, o, none⟩ ∧ ∀ i c, bs[i]? = some c → w.cell? ⟨b, o + i, none⟩ = some (.int .u8 (byt c))

theorem Bytes.below {w w' : World} {a : Option Addr} {bs : List UInt8} (h : Bytes w a bs) (hb : Below w.heap.size w w') : Bytes w' a bs := by
  rcases h with h | ⟨b, o, ha, hc⟩
  · exact .inl h
  · exact .inr ⟨b, o, ha, fun i c hi => by
      have h1 := hc i c hi
      rw [hb.cell (block_lt_of_cell h1)]; exact h1⟩
theorem Bytes.nil (w : World) (a : Option Addr) : Bytes w a [] := .inl rfl


theorem bytes_lit (w : World) (l : List UInt8) (t : TypeId) (m : Nat × Nat) : ∀ i c, l[i]? = some c → (w.alloc (.cells (l.map fun c => Value.int .u8 (byt c)).toArray t m)).cell? ⟨w.heap.size, 0 + i, none⟩ = some (.int .u8 (byt c)) := fun i c hc => by
  rw [Nat.zero_add, World.cell?_alloc_mark]
  simp [hc]
theorem Bytes.take {w : World} {a : Option Addr} {bs : List UInt8} (h : Bytes w a bs) (n : Nat) : Bytes w a (bs.take n) := by
  rcases h with rfl | ⟨b, o, ha, hc⟩
  · exact .inl (by simp)
  · exact .inr ⟨b, o, ha, fun i c hi => hc i c (by rw [List.getElem?_take] at hi; split at hi <;> simp_all)⟩
theorem Bytes.drop {w : World} {b o : Nat} {bs : List UInt8} (h : ∀ i c, bs[i]? = some c → w.cell? ⟨b, o + i, none⟩ = some (.int .u8 (byt c))) (n : Nat) : Bytes w (some ⟨b, o + n, none⟩) (bs.drop n) :=
  .inr ⟨b, o + n, rfl, fun i c hi => by rw [Nat.add_assoc]; exact h (n + i) c (by rw [List.getElem?_drop] at hi; exact hi)⟩
theorem Bytes.cells_grown {w w' : World} {b o g : Nat} {bs : List UInt8} (h : ∀ i c, bs[i]? = some c → w.cell? ⟨b, o + i, none⟩ = some (.int .u8 (byt c))) (hg : w.grownBy w' (some g)) (hne : b ≠ g) :
    ∀ i c, bs[i]? = some c → w'.cell? ⟨b, o + i, none⟩ = some (.int .u8 (byt c)) := fun i c hi => by
  have h1 := h i c hi
  rw [World.cell?_of_block (w := w) (hg.block b (block_lt_of_cell h1) (fun e => hne (by injection e)))]
  exact h1


theorem bytes_of_cells {w : World} {x : Addr} {len cap : Nat} {zs : List Int} (hl : len ≤ cap) (hm : cap ≤ maxLen) (hz : zs.length = cap)
    (hcell : ∀ i, i < zs.length → w.cell? (x.add i) = some (.int .u8 (zs.getD i 0))) (hwz : ∀ n ∈ zs, (Lit.int .u8 n).wf = true) :
    ∃ bs : List UInt8, bs.length = len ∧ len ≤ maxLen ∧ Bytes w (some x) bs := by
  refine ⟨(zs.take len).map fun z => UInt8.ofNat z.toNat, by simp; omega, by omega, ?_⟩
  by_cases h0 : len = 0
  · subst h0; exact .inl (by simp)
  · obtain ⟨b, o, spot⟩ := x
    have hc := hcell 0 (by omega)
    have hspot : spot = none := by simpa [Addr.add] using World.cell?_spot hc
    subst hspot
    refine .inr ⟨b, o, rfl, fun i c hi => ?_⟩
    rw [List.getElem?_map] at hi
    have hil : i < len := by
      rcases Nat.lt_or_ge i len with h | h
      · exact h
      · rw [List.getElem?_eq_none (by simp; omega)] at hi; simp at hi
    rw [List.getElem?_take, if_pos hil, List.getElem?_eq_getElem (by omega)] at hi
    have hi : UInt8.ofNat (zs[i]'(by omega)).toNat = c := by simpa using hi
    have hcc := hcell i (by omega)
    have hw := hwz (zs[i]'(by omega)) (List.getElem_mem _)
    have hbd : 0 ≤ zs[i]'(by omega) ∧ zs[i]'(by omega) < 256 := by
      have e1 : IntKind.u8.min = 0 := rfl
      have e2 : IntKind.u8.max = 255 := rfl
      simp [Lit.wf] at hw
      omega
    have hadd : (⟨b, o, none⟩ : Addr).add i = ⟨b, o + i, none⟩ := by unfold Addr.add; split <;> simp_all
    rw [← hi, byt_of _ hbd.1 hbd.2, ← hadd, hcc]
    congr 2
    rw [List.getD_eq_getElem?_getD, List.getElem?_eq_getElem (by omega)]; rfl

def bval (c : UInt8) : Value := .int .u8 (byt c)
/-- The slice v owns the bytes bs, in a block from B on. -/
def OwnB (w : World) (B e : Nat) (v : Value) (bs : List UInt8) : Prop := w.ownsRow B e 1 v bs.length (bs.map bval)

theorem below_of_grown {w w' : World} {B : Nat} {r : Option Nat} (hg : w.grownBy w' r) (hB : B ≤ w.heap.size) (hr : ∀ k, r = some k → B ≤ k) : Below B w w' := (Below.refl B w).grown hg hB hr
theorem own_block {w : World} {B e size n : Nat} {v : Value} {xs : List Value} (h : w.ownsRow B e size v n xs) : ∀ k, v.ownBlock = some k → B ≤ k := by
  intro k hk
  rcases h.2 with ⟨rfl, _⟩ | ⟨g, cap, cur, rfl, hg, _⟩
  · simp [Value.ownBlock] at hk
  · simp only [Value.ownBlock, Option.some.injEq] at hk; omega

theorem wpList_append_bytes {P : Program} {ops : Array Oper} {rest : List Oper} {o : Oper} {a : Act} {w : World} {Q : Exit → Act → World → Prop} (hgd : o.guard = none) (s x : Operand) (t e : TypeId)
    (ho : o.op = .call { callee := .builtin .append, args := #[s, x], argTypes := #[t, t] }) (ht : P.underlying t = some (.slice e))
    (hinfo : (P.info? e).map (fun i => (i.zero, i.size, i.bytes)) = some (some (.int .u8 0), 1, 1))
    (B : Nat) (v : Value) (us cs : List UInt8) (ad : Option Addr) (n cap : Nat) (hs : a.eval s = v) (hown : OwnB w B e v us) (hx : a.eval x = .slice ad n cap) (hn : cs.length = n) (hb : Bytes w ad cs) (hnil : ad = none → cap = 0)
    (hlen : us.length + cs.length ≤ 140737488355328) (hB : B ≤ w.heap.size)
    (h : ∀ v' w', OwnB w' B e v' (us ++ cs) → w.grownBy w' v.ownBlock → Below B w w' → wpList P ops Q rest (a.put o.dst v') w') : wpList P ops Q (o :: rest) a w := by
  subst hn
  obtain ⟨i0, hi, hz0, hz1, hz2⟩ := info_parts hinfo
  have go : ∀ (y : Addr), a.eval x = .slice (some y) cs.length cap → (∀ j u, (cs.map bval)[j]? = some u → w.cell? (y.add j) = some u) → wpList P ops Q (o :: rest) a w := fun y hy hc => by
    refine wpList_append_own _ hgd s x t ho B e i0 (.int .u8 0) 1 1 ht hi hz0 hz1 hz2 rfl (by decide) v us.length (us.map bval) hs hown y cs.length cap (cs.map bval) hy (by simp) hc (fun u hu => ?_) (by unfold maxLen; omega) (by omega) hB ?_
    · obtain ⟨c, _, rfl⟩ := List.mem_map.1 hu; rfl
    · intro v' w' h1 h2 _
      refine h v' w' ?_ h2 (below_of_grown h2 hB (own_block hown))
      unfold OwnB
      rw [List.length_append, List.map_append]
      exact h1
  rcases hb with rfl | ⟨b, f, rfl, hc⟩
  · cases ad with
    | none =>
      have : cap = 0 := hnil rfl
      subst this
      exact wpList_append_own_none hgd s x t ho B e i0 1 ht hi v us.length (us.map bval) hs hown hx (h v w (by rw [List.append_nil]; exact hown) (World.grownBy.refl _ _) (Below.refl _ _))
    | some y => exact go y hx (fun j u hj => by simp at hj)
  · refine go _ hx fun j u hj => ?_
    rw [List.getElem?_map] at hj
    cases hcj : cs[j]? with
    | none => rw [hcj] at hj; simp at hj
    | some c =>
      rw [hcj] at hj
      have : bval c = u := by simpa using hj
      have hadd : (⟨b, f, none⟩ : Addr).add j = ⟨b, f + j, none⟩ := by unfold Addr.add; split <;> simp_all
      rw [hadd, ← this]
      exact hc j c hcj

theorem OwnB.form {w : World} {B e : Nat} {v : Value} {bs : List UInt8} (h : OwnB w B e v bs) (hne : 0 < bs.length) : ∃ g cap, v = .slice (some ⟨g, 0, none⟩) bs.length cap ∧ B ≤ g := by
  rcases h.2 with ⟨_, h0⟩ | ⟨g, cap, cur, hv, hg, _⟩
  · omega
  · exact ⟨g, cap, hv, hg⟩
theorem OwnB.cell {w : World} {B e g n cap : Nat} {bs : List UInt8} (h : OwnB w B e (.slice (some ⟨g, 0, none⟩) n cap) bs) (hn : bs.length = n) {i : Nat} {c : UInt8} (hc : bs[i]? = some c) : w.cell? ⟨g, i, none⟩ = some (bval c) := by
  subst hn
  have hi : i < bs.length := by
    rcases Nat.lt_or_ge i bs.length with h | h
    · exact h
    · rw [List.getElem?_eq_none h] at hc; simp at hc
  rw [World.ownsRow.cellAt h i (by omega), List.getElem?_map, hc]; rfl
theorem OwnB.frozen {w : World} {B e g n cap : Nat} {bs : List UInt8} (h : OwnB w B e (.slice (some ⟨g, 0, none⟩) n cap) bs) (hn : bs.length = n) (i : Nat) : w.frozen? ⟨g, i, none⟩ = false := by
  subst hn
  exact World.ownsRow.frozenAt h i
theorem OwnB.set {w : World} {B e g n cap : Nat} {bs : List UInt8} (h : OwnB w B e (.slice (some ⟨g, 0, none⟩) n cap) bs) (hn : bs.length = n) (i : Nat) (c : UInt8) :
    OwnB (w.setCell ⟨g, i, none⟩ (bval c)) B e (.slice (some ⟨g, 0, none⟩) n cap) (bs.set i c) := by
  subst hn
  have := (World.ownsRow.stored h i (bval c)).1
  unfold OwnB
  rw [List.length_set, List.map_set]
  exact this
theorem OwnB.bytes {w : World} {B e g n cap : Nat} {bs : List UInt8} (h : OwnB w B e (.slice (some ⟨g, 0, none⟩) n cap) bs) (hn : bs.length = n) : Bytes w (some ⟨g, 0, none⟩) bs :=
  .inr ⟨g, 0, rfl, fun i c hc => by rw [Nat.zero_add]; exact h.cell hn hc⟩
theorem OwnB.below {w w' : World} {B e : Nat} {v : Value} {bs : List UInt8} (h : OwnB w B e v bs) (hb : Below w.heap.size w w') : OwnB w' B e v bs := by
  unfold OwnB at h ⊢
  refine ⟨h.1, ?_⟩
  rcases h.2 with h2 | ⟨g, cap, cur, hv, hg, hh, r⟩
  · exact .inl h2
  · exact .inr ⟨g, cap, cur, hv, hg, by rw [hb.block g (Array.getElem?_eq_some_iff.1 hh).1]; exact hh, r⟩
theorem OwnB.drew {w : World} {B e : Nat} {v : Value} {bs : List UInt8} (h : OwnB w B e v bs) : OwnB w.drew B e v bs := h
theorem OwnB.empty (w : World) (e : Nat) : OwnB (w.alloc (.cells #[] e)) w.heap.size e (.slice (some ⟨w.heap.size, 0, none⟩) 0 0) [] := by
  have := World.ownsRow_lit (e := e) (size := 1) w #[] 0 (Nat.le_refl _) (by unfold maxLen; omega) rfl
  exact this
theorem OwnB.nil (w : World) (B e : Nat) : OwnB w B e (.slice none 0 0) [] := ⟨rfl, .inl ⟨rfl, rfl⟩⟩
theorem OwnB.mono {w : World} {B B' e : Nat} {v : Value} {bs : List UInt8} (h : OwnB w B e v bs) (hB : B' ≤ B) : OwnB w B' e v bs := by
  unfold OwnB at h ⊢
  refine ⟨h.1, ?_⟩
  rcases h.2 with h2 | ⟨g, cap, cur, hv, hg, r⟩
  · exact .inl h2
  · exact .inr ⟨g, cap, cur, hv, by omega, r⟩

theorem OwnB.form' {w : World} {B e : Nat} {v : Value} {bs : List UInt8} (h : OwnB w B e v bs) : ∃ ao cap, v = .slice ao bs.length cap := by
  rcases h.2 with ⟨hv, h0⟩ | ⟨g, cap, cur, hv, _⟩
  · exact ⟨none, 0, by rw [hv, h0]⟩
  · exact ⟨_, cap, hv⟩
theorem OwnB.bytes' {w : World} {B e cap : Nat} {ao : Option Addr} {n : Nat} {bs : List UInt8} (h : OwnB w B e (.slice ao n cap) bs) (hn : bs.length = n) : Bytes w ao bs := by
  rcases h.2 with ⟨hv, h0⟩ | ⟨g, cap', cur, hv, _⟩
  · exact .inl (List.length_eq_zero_iff.1 h0)
  · simp only [Value.slice.injEq] at hv
    obtain ⟨rfl, rfl, rfl⟩ := hv
    exact h.bytes rfl

theorem below_step {a w w' : World} (h : Below a.heap.size a w) (k : Below w.heap.size w w') : Below a.heap.size a w' := h.trans (k.mono h.size)
theorem below_alloc {a w : World} (h : Below a.heap.size a w) (o : Obj) : Below a.heap.size a (w.alloc o) := h.alloc h.size o
theorem below_refl (w : World) : Below w.heap.size w w := Below.refl _ _
theorem cell_at {w w' : World} {a : Addr} {v : Value} (hb : Below w.heap.size w w') (h : w.cell? a = some v) : w'.cell? a = some v := by
  rw [hb.cell (block_lt_of_cell h)]; exact h
end Go.Proofs.Ytgapahmjcladlaa
