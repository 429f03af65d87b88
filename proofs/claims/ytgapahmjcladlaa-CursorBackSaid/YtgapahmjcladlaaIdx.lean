/- Where a sign lies first: the search, and what the calls answer. -/
import Derived.Test.YtgapahmjcladlaaLittle
import Derived.Lib.IndexBytes
namespace Go.Proofs.Ytgapahmjcladlaa
open Go.RowKit
set_option linter.unusedVariables false

/-- The search's variable lies in memory. -/
def Tab (w : World) : Prop := ∃ m, w.cell? ⟨0, 0, none⟩ = some (.int .i64 m)
theorem Tab.below {w w' : World} (h : Tab w) (hb : Below w.heap.size w w') : Tab w' := by
  obtain ⟨m, hm⟩ := h
  exact ⟨m, cell_at hb hm⟩
theorem tab_of {W : World} (h : W.ShapedOpen Try.prog) : Tab W := Try.laysM185.s1_3 W h
def nums (bs : List UInt8) : List Int := bs.map byt
theorem nums_len (bs : List UInt8) : (nums bs).length = bs.length := by unfold nums; simp
theorem nums_of (bs : List UInt8) : Lib.bytesOf (nums bs) = bs := by
  unfold Lib.bytesOf nums
  rw [List.map_map]
  conv => rhs; rw [← List.map_id bs]
  apply List.map_congr_left
  intro c _
  show UInt8.ofNat (byt c).toNat = c
  unfold byt
  simp
theorem nums_getD (bs : List UInt8) (i : Nat) (c : UInt8) (h : bs[i]? = some c) : (nums bs).getD i 0 = byt c := by
  unfold nums
  rw [List.getD_eq_getElem?_getD, List.getElem?_map, h]; rfl
theorem nums_range (bs : List UInt8) : ∀ x ∈ nums bs, 0 ≤ x ∧ x < 256 := fun x hx => by
  obtain ⟨c, _, rfl⟩ := List.mem_map.1 hx
  exact ⟨byt_nonneg c, byt_lt c⟩
theorem plain_add (b o i : Nat) : (⟨b, o, none⟩ : Addr).add i = ⟨b, o + i, none⟩ := by unfold Addr.add; split <;> simp_all
theorem cells_nums {w : World} {b o n : Nat} {bs : List UInt8} (hl : bs.length = n) (hc : ∀ i c, bs[i]? = some c → w.cell? ⟨b, o + i, none⟩ = some (.int .u8 (byt c))) :
    ∀ i, i < n → w.cell? ((⟨b, o, none⟩ : Addr).add i) = some (.int .u8 ((nums bs).getD i 0)) := fun i hi => by
  obtain ⟨c, h⟩ := at_some (us := bs) (k := i) (by omega)
  rw [plain_add, hc i c h, nums_getD bs i c h]

theorem index_at (x : Addr) (n cap : Nat) (bs old : List UInt8) (b2 o2 d c2 : Nat) (w : World) (hl : bs.length = n) (hd : old.length = d) (hd1 : d ≤ 1000) (hn : n ≤ 1000000) (hcap : n ≤ cap)
    (hb : ∀ i c, bs[i]? = some c → w.cell? (x.add i) = some (.int .u8 (byt c))) (ho : ∀ i c, old[i]? = some c → w.cell? ⟨b2, o2 + i, none⟩ = some (.int .u8 (byt c))) (hT : Tab w) :
    Calls Try.prog 23 #[.slice (some x) n cap, .slice (some ⟨b2, o2, none⟩) d c2] w fun e w' => e = .returned (.int .i64 (Lib.index bs old)) ∧ Below w.heap.size w w' := by
  obtain ⟨m, hm⟩ := hT
  refine (Try.bytes_Index_at x ⟨b2, o2, none⟩ n cap d c2 (nums bs) (nums old) m w (by rw [nums_len, hl]) (by rw [nums_len, hd]) (nums_range bs) (nums_range old) (fun i hi => ?_) (cells_nums hd ho) hcap (by omega) (by omega) hm).mono fun e w' h => ⟨?_, ?_⟩
  · obtain ⟨c, h⟩ := at_some (us := bs) (k := i) (by omega)
    rw [hb i c h, nums_getD bs i c h]
  · rw [h.1, nums_of, nums_of]
  · obtain ⟨q, hq⟩ := h.2; rw [hq]; exact Below.drewN (Below.refl _ _) q

theorem index_any (a : Option Addr) (n cap : Nat) (bs old : List UInt8) (b2 o2 c2 : Nat) (w : World) (hl : bs.length = n) (hd : old.length = 4) (hn : n ≤ 1000000) (hcap : n ≤ cap) (hnil : a = none → n = 0 ∧ cap = 0)
    (hb : Bytes w a bs) (ho : ∀ i c, old[i]? = some c → w.cell? ⟨b2, o2 + i, none⟩ = some (.int .u8 (byt c))) (hT : Tab w) :
    Calls Try.prog 23 #[.slice a n cap, .slice (some ⟨b2, o2, none⟩) 4 c2] w fun e w' => e = .returned (.int .i64 (Lib.index bs old)) ∧ Below w.heap.size w w' := by
  cases a with
  | none =>
    obtain ⟨rfl, rfl⟩ := hnil rfl
    have h0 : bs = [] := List.length_eq_zero_iff.1 hl
    subst h0
    refine (Try.bytes_Index_nil (some ⟨b2, o2, none⟩) 4 c2 w (by omega) (fun h => by omega)).mono fun e w' h => ⟨?_, ?_⟩
    · rw [h.1]
      have : old.isEmpty = false := by cases old with
        | nil => simp at hd
        | cons x l => rfl
      unfold Lib.index
      rw [this]; rfl
    · rw [h.2]; exact Below.refl _ _
  | some x =>
    refine index_at x n cap bs old b2 o2 4 c2 w hl hd (by omega) hn hcap (fun i c hi => ?_) ho hT
    rcases hb with h | ⟨b, o, h, hc⟩
    · rw [h] at hi; simp at hi
    · cases h
      rw [plain_add]; exact hc i c hi

/-- A sign lies at a place. -/
def atS (bs : List UInt8) (i : Nat) (s : List UInt8) : Prop := i + 4 ≤ bs.length ∧ (bs.drop i).take 4 = s
/-- The least place of a sign, from one on. -/
def FirstIs (bs : List UInt8) (from_ : Nat) (s : List UInt8) (r : Int) : Prop :=
  (r = -1 ∧ ∀ i, from_ ≤ i → ¬ atS bs i s) ∨ ∃ k : Nat, r = k ∧ from_ ≤ k ∧ atS bs k s ∧ ∀ i, from_ ≤ i → i < k → ¬ atS bs i s
theorem FirstIs.eq {bs : List UInt8} {f : Nat} {s : List UInt8} {r q : Int} (h : FirstIs bs f s r) (g : FirstIs bs f s q) : r = q := by
  rcases h with ⟨h1, h2⟩ | ⟨k, h1, h2, h3, h4⟩ <;> rcases g with ⟨g1, g2⟩ | ⟨l, g1, g2, g3, g4⟩
  · rw [h1, g1]
  · exact absurd g3 (h2 l g2)
  · exact absurd h3 (g2 k h2)
  · have a1 : ¬ k < l := fun h => g4 k h2 h h3
    have a2 : ¬ l < k := fun h => h4 l g2 h g3
    omega
theorem occ_at {bs s : List UInt8} {i : Nat} (hs : s.length = 4) : Lib.occAt bs s i = true ↔ atS bs i s := by
  constructor
  · intro h
    rcases Lib.occAt_room h with h1 | h1
    · rw [hs] at h1
      refine ⟨h1, ?_⟩
      rw [Lib.occAt_iff_take bs s i (by rw [hs]; exact h1), hs] at h
      exact eq_of_beq h
    · rw [h1] at hs; simp at hs
  · rintro ⟨h1, h2⟩
    rw [Lib.occAt_iff_take bs s i (by rw [hs]; exact h1), hs, h2]
    exact beq_self_eq_true _
theorem index_is (bs s : List UInt8) (hs : s.length = 4) : FirstIs bs 0 s (Lib.index bs s) := by
  by_cases h : ∃ i, atS bs i s
  · obtain ⟨k, hk, hmin⟩ : ∃ k, atS bs k s ∧ ∀ i, i < k → ¬ atS bs i s := by
      obtain ⟨i, hi⟩ := h
      induction i using Nat.strongRecOn with
      | ind i ih =>
        by_cases hlt : ∃ j, j < i ∧ atS bs j s
        · obtain ⟨j, h1, h2⟩ := hlt; exact ih j h1 h2
        · exact ⟨i, hi, fun j h1 h2 => hlt ⟨j, h1, h2⟩⟩
    refine .inr ⟨k, Lib.index_first (by have := hk.1; omega) ((occ_at hs).2 hk) (fun j hj => ?_), Nat.zero_le _, hk, fun i _ hi => hmin i hi⟩
    have := hmin j hj
    rw [← occ_at hs] at this
    simpa using this
  · refine .inl ⟨Lib.index_none (fun j _ => ?_), fun i _ hi => h ⟨i, hi⟩⟩
    have : ¬ atS bs j s := fun hj => h ⟨j, hj⟩
    rw [← occ_at hs] at this
    simpa using this
theorem at_drop {bs s : List UInt8} {f i : Nat} (hf : f ≤ bs.length) : atS (bs.drop f) i s ↔ atS bs (f + i) s := by
  unfold atS
  rw [List.length_drop, List.drop_drop]
  constructor
  · rintro ⟨h1, h2⟩; exact ⟨by omega, h2⟩
  · rintro ⟨h1, h2⟩; exact ⟨by omega, h2⟩
theorem first_drop {bs s : List UInt8} {f : Nat} {r : Int} (hf : f ≤ bs.length) (h : FirstIs (bs.drop f) 0 s r) : FirstIs bs f s (if r < 0 then -1 else f + r) := by
  rcases h with ⟨h1, h2⟩ | ⟨k, h1, h2, h3, h4⟩
  · rw [h1, if_pos (by omega)]
    refine .inl ⟨rfl, fun i hi ha => h2 (i - f) (Nat.zero_le _) ((at_drop hf).2 ?_)⟩
    rw [show f + (i - f) = i by omega]; exact ha
  · rw [h1, if_neg (by omega)]
    refine .inr ⟨f + k, by omega, by omega, (at_drop hf).1 h3, fun i hi hlt ha => h4 (i - f) (Nat.zero_le _) (by omega) ((at_drop hf).2 ?_)⟩
    rw [show f + (i - f) = i by omega]; exact ha
end Go.Proofs.Ytgapahmjcladlaa
