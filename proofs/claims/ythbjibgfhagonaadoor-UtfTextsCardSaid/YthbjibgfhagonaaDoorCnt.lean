/- How often, and where first, bytes lie in bytes: the two calls, for all bytes; and what is replaced (plain). -/
import Derived.Test.YthbjibgfhagonaaDoorTexts
import Derived.Lib.Replace
import Derived.Lib.IndexBytes
namespace Go.Proofs.YthbjibgfhagonaaDoor
open Go.RowKit
set_option linter.unusedVariables false

/-- The search's variable lies in memory. -/
def Tab2 (w : World) : Prop := ∃ m, w.cell? ⟨2, 0, none⟩ = some (.int .i64 m)
theorem Tab2.below {w w' : World} (h : Tab2 w) (hb : Below w.heap.size w w') : Tab2 w' := by
  obtain ⟨m, hm⟩ := h
  exact ⟨m, cell_at hb hm⟩

theorem nums_range (bs : List UInt8) : ∀ x ∈ nums bs, 0 ≤ x ∧ x < 256 := fun x hx => by
  obtain ⟨c, _, rfl⟩ := List.mem_map.1 hx
  exact ⟨byt_nonneg c, byt_lt c⟩
theorem plain_add (b o i : Nat) : (⟨b, o, none⟩ : Addr).add i = ⟨b, o + i, none⟩ := by unfold Addr.add; split <;> simp_all
theorem cells_nums {w : World} {b o n : Nat} {bs : List UInt8} (hl : bs.length = n) (hc : ∀ i c, bs[i]? = some c → w.cell? ⟨b, o + i, none⟩ = some (.int .u8 (byt c))) :
    ∀ i, i < n → w.cell? ((⟨b, o, none⟩ : Addr).add i) = some (.int .u8 ((nums bs).getD i 0)) := fun i hi => by
  obtain ⟨c, h⟩ := at_some (us := bs) (k := i) (by omega)
  rw [plain_add, hc i c h, nums_getD bs i c h]

theorem count_one (s : List UInt8) (c : UInt8) : Lib.count s [c] = s.count c := by
  have key : ∀ (k : Nat) (s : List UInt8), s.length ≤ k → Lib.count s [c] = s.count c := by
    intro k
    induction k with
    | zero =>
      intro s hs
      have : s = [] := List.length_eq_zero_iff.1 (by omega)
      subst this; rfl
    | succ k ih =>
      intro s hs
      by_cases hm : Lib.index s [c] = -1
      · rw [Lib.count_miss hm]
        rw [Lib.index_one] at hm
        have := Lib.indexByte_none hm
        symm
        rw [List.count_eq_zero]
        intro hc
        obtain ⟨i, hi⟩ := List.mem_iff_getElem?.1 hc
        exact this i hi
      · have hge := Lib.index_ge s [c]
        obtain ⟨i, hi⟩ := Int.eq_ofNat_of_zero_le (by omega : 0 ≤ Lib.index s [c])
        rw [Lib.count_hit (by simp) hi]
        have h1 := hi
        rw [Lib.index_one] at h1
        obtain ⟨h2, h3⟩ := Lib.indexByte_some h1
        have hil : i < s.length := by
          rcases Nat.lt_or_ge i s.length with h | h
          · exact h
          · rw [List.getElem?_eq_none h] at h2; simp at h2
        rw [ih _ (by simp; omega)]
        have e : s = s.take i ++ c :: s.drop (i + 1) := by
          have h4 : s[i] = c := by rw [List.getElem?_eq_getElem hil] at h2; exact Option.some.inj h2
          rw [← h4, List.getElem_cons_drop, List.take_append_drop]
        conv => rhs; rw [e]
        rw [List.count_append, List.count_cons]
        have : (s.take i).count c = 0 := by
          rw [List.count_eq_zero]
          intro hc
          obtain ⟨j, hj⟩ := List.mem_iff_getElem?.1 hc
          rw [List.getElem?_take] at hj
          split at hj
          · exact h3 j (by assumption) hj
          · simp at hj
        simp [this]; omega
  exact key s.length s (Nat.le_refl _)

theorem count_any (a : Option Addr) (n cap : Nat) (bs old : List UInt8) (b2 o2 d c2 : Nat) (w : World) (hl : bs.length = n) (hd : old.length = d) (hd1 : d = 1 ∨ d = 2) (hn : n ≤ 1000000) (hcap : n ≤ cap) (hnil : a = none → n = 0 ∧ cap = 0)
    (hb : Bytes w a bs) (ho : ∀ i c, old[i]? = some c → w.cell? ⟨b2, o2 + i, none⟩ = some (.int .u8 (byt c))) (hT : Tab2 w) :
    Calls Tryd.prog 49 #[.slice a n cap, .slice (some ⟨b2, o2, none⟩) d c2] w fun e w' => e = .returned (.int .i64 (Lib.count bs old)) ∧ Below w.heap.size w w' := by
  obtain ⟨m, hm⟩ := hT
  have hcells : a = none ∨ ∃ x : Addr, a = some x ∧ ∀ i, i < n → w.cell? (x.add i) = some (.int .u8 ((nums bs).getD i 0)) := by
    rcases hb with rfl | ⟨b, o, rfl, hc⟩
    · have : n = 0 := by rw [← hl]; rfl
      cases a with
      | none => exact .inl rfl
      | some x => exact .inr ⟨x, rfl, fun i hi => by omega⟩
    · exact .inr ⟨_, rfl, cells_nums hl hc⟩
  rcases hd1 with rfl | rfl
  · match old, hd with
    | [c], _ =>
      have hc2 : w.cell? ⟨b2, o2, none⟩ = some (.int .u8 (byt c)) := ho 0 c rfl
      have e3 : (byt c).toNat.toUInt8 = c := by unfold byt; simp
      rcases hcells with rfl | ⟨x, rfl, hc⟩
      · obtain ⟨rfl, rfl⟩ := hnil rfl
        have : bs = [] := List.length_eq_zero_iff.1 hl
        subst this
        exact (Tryd.bytes_Count_one_nil b2 o2 c2 (byt c) w hc2).mono fun e w' h => ⟨h.1, by rw [h.2]; exact Below.refl _ _⟩
      · refine (Tryd.bytes_Count_one_at x n cap b2 o2 c2 (nums bs) (byt c) w (by rw [nums_len, hl]) hc hc2).mono fun e w' h => ⟨?_, by rw [h.2]; exact Below.refl _ _⟩
        rw [h.1, nums_of, e3, count_one]; rfl
  · rcases hcells with rfl | ⟨x, rfl, hc⟩
    · obtain ⟨rfl, rfl⟩ := hnil rfl
      have : bs = [] := List.length_eq_zero_iff.1 hl
      subst this
      refine (Tryd.bytes_Count_nil (some ⟨b2, o2, none⟩) 2 c2 w (by omega) (by omega)).mono fun e w' h => ⟨?_, by rw [h.2]; exact Below.refl _ _⟩
      rw [h.1, Lib.count_miss]; rfl
      match old, hd with
      | [p, q], _ => rfl
    · refine (Tryd.bytes_Count_at x ⟨b2, o2, none⟩ n cap 2 c2 (nums bs) (nums old) m w (by rw [nums_len, hl]) (by rw [nums_len, hd]) (nums_range bs) (nums_range old) hc (cells_nums hd ho) hcap (by omega) (by omega) (by omega) hm).mono fun e w' h => ⟨?_, ?_⟩
      · rw [h.1, nums_of, nums_of]
      · obtain ⟨q, hq⟩ := h.2; rw [hq]; exact Below.drewN (Below.refl _ _) q

theorem index_at (x : Addr) (n cap : Nat) (bs old : List UInt8) (b2 o2 d c2 : Nat) (w : World) (hl : bs.length = n) (hd : old.length = d) (hd1 : d ≤ 1000) (hn : n ≤ 1000000) (hcap : n ≤ cap)
    (hb : ∀ i c, bs[i]? = some c → w.cell? (x.add i) = some (.int .u8 (byt c))) (ho : ∀ i c, old[i]? = some c → w.cell? ⟨b2, o2 + i, none⟩ = some (.int .u8 (byt c))) (hT : Tab2 w) :
    Calls Tryd.prog 50 #[.slice (some x) n cap, .slice (some ⟨b2, o2, none⟩) d c2] w fun e w' => e = .returned (.int .i64 (Lib.index bs old)) ∧ Below w.heap.size w w' := by
  obtain ⟨m, hm⟩ := hT
  refine (Tryd.bytes_Index_at x ⟨b2, o2, none⟩ n cap d c2 (nums bs) (nums old) m w (by rw [nums_len, hl]) (by rw [nums_len, hd]) (nums_range bs) (nums_range old) (fun i hi => ?_) (cells_nums hd ho) hcap (by omega) (by omega) hm).mono fun e w' h => ⟨?_, ?_⟩
  · obtain ⟨c, h⟩ := at_some (us := bs) (k := i) (by omega)
    rw [hb i c h, nums_getD bs i c h]
  · rw [h.1, nums_of, nums_of]
  · obtain ⟨q, hq⟩ := h.2; rw [hq]; exact Below.drewN (Below.refl _ _) q

/-- So many do not overlap. -/
theorem count_mul_le (old : List UInt8) (h1 : old ≠ []) (s : List UInt8) : Lib.count s old * old.length ≤ s.length := by
  have key : ∀ (k : Nat) (s : List UInt8), s.length ≤ k → Lib.count s old * old.length ≤ s.length := by
    intro k
    induction k with
    | zero =>
      intro s hs
      have : s = [] := List.length_eq_zero_iff.1 (by omega)
      subst this
      rw [Lib.count_miss]; simp
      unfold Lib.index
      cases old with
      | nil => exact absurd rfl h1
      | cons x t => rfl
    | succ k ih =>
      intro s hs
      by_cases hm : Lib.index s old = -1
      · rw [Lib.count_miss hm]; omega
      · have hge := Lib.index_ge s old
        obtain ⟨i, hi⟩ := Int.eq_ofNat_of_zero_le (by omega : 0 ≤ Lib.index s old)
        have hr := Lib.index_room s old (by omega)
        have hp : 0 < old.length := List.length_pos_iff.2 h1
        rw [Lib.count_hit h1 hi]
        have := ih (s.drop (i + old.length)) (by rw [List.length_drop]; omega)
        rw [List.length_drop] at this
        rw [Nat.add_mul]
        omega
  exact key s.length s (Nat.le_refl _)

theorem count_pos {s old : List UInt8} {r : Nat} (h1 : old ≠ []) (h : Lib.count s old = r + 1) : ∃ i : Nat, Lib.index s old = i ∧ i + old.length ≤ s.length ∧ Lib.count (s.drop (i + old.length)) old = r := by
  obtain ⟨i, hi⟩ := Lib.index_of_count (s := s) (old := old) (by omega)
  have hr := Lib.index_room s old (by omega)
  rw [Lib.count_hit h1 hi] at h
  exact ⟨i, hi, by omega, by omega⟩

/-- What is replaced, by one byte. -/
def rep (old : List UInt8) (c : UInt8) (r : Nat) (s : List UInt8) : List UInt8 := Lib.replaceK old [c] r s
theorem rep_zero (old : List UInt8) (c : UInt8) (s : List UInt8) : rep old c 0 s = s := rfl
theorem rep_succ {old : List UInt8} {c : UInt8} {r i : Nat} {s : List UInt8} (h : Lib.index s old = i) : rep old c (r + 1) s = s.take i ++ [c] ++ rep old c r (s.drop (i + old.length)) := Lib.replaceK_hit _ _ _ _ _ h
theorem rep_len {old : List UInt8} {c : UInt8} (h1 : old ≠ []) : ∀ (r : Nat) (s : List UInt8), Lib.count s old = r → (rep old c r s).length + r * old.length = s.length + r
  | 0, s, h => by rw [rep_zero]; omega
  | r + 1, s, h => by
    obtain ⟨i, hi, hr, hc⟩ := count_pos h1 h
    have := rep_len (c := c) h1 r _ hc
    rw [List.length_drop] at this
    rw [rep_succ hi, Nat.add_mul]
    simp only [List.length_append, List.length_take, List.length_cons, List.length_nil]
    omega
def repAll (old : List UInt8) (c : UInt8) (s : List UInt8) : List UInt8 := rep old c (Lib.count s old) s
end Go.Proofs.YthbjibgfhagonaaDoor
