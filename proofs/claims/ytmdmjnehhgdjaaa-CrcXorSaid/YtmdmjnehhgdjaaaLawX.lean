/- The walk of CrcXor: it returns true for any three rows of bytes. -/
import Derived.Test.YtmdmjnehhgdjaaaArgs
import Derived.StillTailTactics
namespace Go.Proofs.Ytmdmjnehhgdjaaa
open Go.RowKit Math Go.Sort

theorem bits_byt (c d : UInt8) : bits .xor .u8 (byt c) (byt d) = byt (c ^^^ d) := by
  unfold byt
  rw [u8_xor_nat _ _ c.toNat_lt d.toNat_lt, UInt8.toNat_xor]

attribute [local go_sem] bits_byt bits_xor bits_and bits_and_one bits_and_poly bits_xor_poly bits_not bits_not' signed_u32 num_shr num_half num_div256 num_neg bits_idx bits_idx' conv_byt

set_option maxHeartbeats 400000 in
theorem lawX_out (a b c : Option Addr) (l m n ca cb cc : Nat) (hl : l ≤ 9223372036854775807) (hm : m ≤ 9223372036854775807) (_hn : n ≤ 9223372036854775807) (hx : 3000 < l ∨ l ≤ 3000 ∧ m ≠ l ∨ l ≤ 3000 ∧ m = l ∧ n ≠ l) (w : World) :
    Calls Try.prog 7 #[.slice a l ca, .slice b m cb, .slice c n cc] w fun e w' => e = .returned (.bool true) ∧ Below w.heap.size w w' := by
  rcases hx with h1 | ⟨h1, h2⟩ | ⟨h1, rfl, h2⟩
  case' inr.inl => have h3 : ((m : Int) != (l : Int)) = true := by rw [bne_iff_ne]; omega
  case' inr.inr => have h3 : ((n : Int) != (m : Int)) = true := by rw [bne_iff_ne]; omega
  all_goals
    go_enter Try.func7, Try.ntmps7
    go_wp2_with (go_at_call 8; refine (alive_any _).mono ?_; rintro e w1 ⟨rfl, hb1⟩)
    go_ret
    exact ⟨rfl, hb1⟩

/-- The Xor of three rows. -/
def xor3 (us vs ts : List UInt8) : List UInt8 := List.zipWith (· ^^^ ·) (List.zipWith (· ^^^ ·) us vs) ts
theorem xor3_get {us vs ts : List UInt8} {k : Nat} {x y z : UInt8} (h1 : us[k]? = some x) (h2 : vs[k]? = some y) (h3 : ts[k]? = some z) : (xor3 us vs ts)[k]? = some (x ^^^ y ^^^ z) := by
  unfold xor3
  rw [List.getElem?_zipWith, List.getElem?_zipWith, h1, h2, h3]
theorem xor3_length {us vs ts : List UInt8} {n : Nat} (h1 : us.length = n) (h2 : vs.length = n) (h3 : ts.length = n) : (xor3 us vs ts).length = n := by
  unfold xor3; simp; omega
/-- What the new row holds when k places are filled. -/
def filled (xs : List UInt8) (k : Nat) : Nat → Value := fun j => if j < k then .int .u8 (byt (xs[j]?.getD 0)) else .int .u8 0
theorem filled_bytes {w : World} {g n : Nat} {xs : List UInt8} (h : w.rowIs g 5 n (filled xs n)) (hn : xs.length = n) : Bytes w (some ⟨g, 0, none⟩) xs := by
  refine .inr ⟨g, 0, rfl, fun i c hc => ?_⟩
  have hi : i < n := by
    rcases Nat.lt_or_ge i n with h | h
    · exact h
    · rw [List.getElem?_eq_none (by omega)] at hc; simp at hc
  rw [Nat.zero_add, h.cell hi]
  unfold filled
  rw [if_pos hi, hc]; rfl
theorem info5 : (Try.prog.info? 5).map (fun i => (i.zero, i.size, i.bytes)) = some (some (.int .u8 0), 1, 1) := by kernel_rfl

theorem sum_at (a : Option Addr) (bs : List UInt8) (n cap : Nat) (hl : bs.length = n) (hn : n ≤ 9223372036854775807) (w : World) (hb : Bytes w a bs) :
    Calls Try.prog 9 #[.slice a n cap] w fun e w' => e = .returned (.int .u32 (num (sum bs))) ∧ Below w.heap.size w w' := by
  subst hl
  exact sum_any a bs cap hn w hb

set_option maxHeartbeats 1000000 in
theorem lawX_in (us vs ts : List UInt8) (n : Nat) (a b c : Option Addr) (ca cb cc : Nat) (hla : us.length = n) (hlb : vs.length = n) (hlc : ts.length = n) (hn : n ≤ 3000) (w : World) (ha : Bytes w a us) (hb : Bytes w b vs) (hc : Bytes w c ts) :
    Calls Try.prog 7 #[.slice a n ca, .slice b n cb, .slice c n cc] w fun e w' => e = .returned (.bool true) ∧ Below w.heap.size w w' := by
  have HLA := Lib.hid hla; have HLB := Lib.hid hlb; have HLC := Lib.hid hlc
  have HA := Lib.hid ha; have HB := Lib.hid hb; have HC := Lib.hid hc
  clear hla hlb hlc ha hb hc
  have hmk := run_make_row' (P := Try.prog) 22 5 (.int .u8 0) 1 Try.underlying22 info5 rfl .i64 .i64 n (by omega) (by omega)
  go_enter Try.func7, Try.ntmps7
  go_wp2_with (go_at_call 8; refine (alive_any _).mono ?_; rintro e w1 ⟨rfl, hb1⟩)
  clear hmk
  obtain ⟨G, hG⟩ : ∃ G, G = w1.heap.size := ⟨_, rfl⟩
  have hr0 := World.rowIs_made w1 (.int .u8 0) n 5
  rw [← hG] at hr0 ⊢
  have hGw : w.heap.size ≤ G := by rw [hG]; exact hb1.size
  have hbb : Below w.heap.size w (w1.alloc (.cells (madeCells #[.int .u8 0] n) 5)) := hb1.alloc hb1.size _
  have HG := Lib.hid hG
  clear hG hb1
  go_loopw [8] (fun i wr => ∃ k : Nat, k ≤ n ∧ i = .int .i64 k ∧ wr.rowIs G 5 n (filled (xor3 us vs ts) k) ∧ Below w.heap.size w wr) (fun i _ => n - (intOf i).toNat)
  case atStart => exact ⟨0, by omega, rfl, hr0.congr (fun i _ => by simp [filled]), hbb⟩
  case round =>
    clear hr0 hbb
    obtain ⟨k, hk, rfl, hr, hbw⟩ := hrel
    by_cases hlt : k < n
    · obtain ⟨x, hx⟩ : ∃ c, us[k]? = some c := ⟨us[k]'(by have := HLA.out; omega), List.getElem?_eq_getElem _⟩
      obtain ⟨y, hy⟩ : ∃ c, vs[k]? = some c := ⟨vs[k]'(by have := HLB.out; omega), List.getElem?_eq_getElem _⟩
      obtain ⟨z, hz⟩ : ∃ c, ts[k]? = some c := ⟨ts[k]'(by have := HLC.out; omega), List.getElem?_eq_getElem _⟩
      rcases Bytes.below HA.out hbw with h | ⟨ba, oa, rfl, hca⟩
      · rw [h] at hx; simp at hx
      rcases Bytes.below HB.out hbw with h | ⟨bb, ob, rfl, hcb⟩
      · rw [h] at hy; simp at hy
      rcases Bytes.below HC.out hbw with h | ⟨bc, oc, rfl, hcc⟩
      · rw [h] at hz; simp at hz
      have hca := hca k x hx
      have hcb := hcb k y hy
      have hcc := hcc k z hz
      have h3 := Lib.hid (xor3_get hx hy hz)
      have hcell := hr.cell hlt
      have hfr := hr.frozen k
      have HR := Lib.hid hr
      clear hx hy hz hr
      go_wp2_with fail
      refine wp_region_still_tail 17 (by kernel_rfl) (by kernel_rfl) ?_
      simp only [List.take_succ_cons, List.take_zero, List.drop_succ_cons, List.drop_zero]
      repeat still_step
      refine wpStill_nil ?_
      change wpList _ _ _ _ _ wr.drew
      go_wp2
      go_roundw
      case rel =>
        refine ⟨k + 1, by omega, by go_num, (World.rowIs.set (World.rowIs.drew HR.out) k _).congr fun i hi => ?_, (hbw.drew).setCell (by show _ ≤ G; exact hGw) _⟩
        unfold filled
        by_cases e1 : i = k
        · subst e1; rw [if_pos rfl, if_pos (by omega), h3.out]; rfl
        · by_cases e2 : i < k
          · rw [if_neg e1, if_pos e2, if_pos (by omega)]
          · rw [if_neg e1, if_neg e2, if_neg (by omega)]
      case measure => simp [intOf]; omega
    · obtain rfl : k = n := by omega
      have h0 := Lib.hid (filled_bytes hr (xor3_length HLA.out HLB.out HLC.out))
      have h1 := Lib.hid (Bytes.below HA.out hbw); have h2 := Lib.hid (Bytes.below HB.out hbw); have h3 := Lib.hid (Bytes.below HC.out hbw)
      clear hr
      go_wp2_with fail
      refine (sum_at _ (xor3 us vs ts) k k (xor3_length HLA.out HLB.out HLC.out) (by omega) _ h0.out).mono ?_
      rintro e w2 ⟨rfl, hb2⟩
      go_wp2_with fail
      refine (sum_at _ us k ca HLA.out (by omega) _ (Bytes.below h1.out hb2)).mono ?_
      rintro e w3 ⟨rfl, hb3⟩
      go_wp2_with fail
      refine (sum_at _ vs k cb HLB.out (by omega) _ (Bytes.below (Bytes.below h2.out hb2) hb3)).mono ?_
      rintro e w4 ⟨rfl, hb4⟩
      go_wp2_with fail
      refine (sum_at _ ts k cc HLC.out (by omega) _ (Bytes.below (Bytes.below (Bytes.below h3.out hb2) hb3) hb4)).mono ?_
      rintro e w5 ⟨rfl, hb5⟩
      have hs : X (X (sum us) (sum vs)) (sum ts) = sum (xor3 us vs ts) := (sum_xor us vs ts (by rw [HLA.out, HLB.out]) (by rw [HLA.out, HLC.out])).symm
      go_wp2_with fail
      go_ret
      refine ⟨rfl, ?_⟩
      have b2 := hbw.trans (hb2.mono hbw.size)
      have b3 := b2.trans (hb3.mono b2.size)
      have b4 := b3.trans (hb4.mono b3.size)
      exact b4.trans (hb5.mono b4.size)

theorem lawX (us vs ts : List UInt8) (a b c : Option Addr) (ca cb cc : Nat) (h1 : us.length ≤ 9223372036854775807) (h2 : vs.length ≤ 9223372036854775807) (h3 : ts.length ≤ 9223372036854775807) (w : World) (ha : Bytes w a us) (hb : Bytes w b vs) (hc : Bytes w c ts) :
    Calls Try.prog 7 #[.slice a us.length ca, .slice b vs.length cb, .slice c ts.length cc] w fun e w' => e = .returned (.bool true) ∧ Below w.heap.size w w' := by
  by_cases h : us.length ≤ 3000 ∧ vs.length = us.length ∧ ts.length = us.length
  · obtain ⟨g1, g2, g3⟩ := h
    rw [g2, g3]
    exact lawX_in us vs ts us.length a b c ca cb cc rfl g2 g3 g1 w ha hb hc
  · exact lawX_out a b c _ _ _ ca cb cc h1 h2 h3 (by omega) w
end Go.Proofs.Ytmdmjnehhgdjaaa
