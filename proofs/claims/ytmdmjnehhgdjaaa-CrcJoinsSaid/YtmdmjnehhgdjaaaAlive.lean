/- The statements' first line returns true, and nothing that was there has turned. -/
import Derived.Test.YtmdmjnehhgdjaaaDig
import Derived.Lib.QuietBelow
import Derived.Lib.SlBytesConst
namespace Go.Proofs.Ytmdmjnehhgdjaaa
open Go.RowKit Math Go.Sort

attribute [local go_sem] bits_xor bits_and bits_and_one bits_and_poly bits_xor_poly bits_not bits_not' signed_u32 num_shr num_half num_div256 num_neg bits_idx bits_idx' conv_byt

def nine : List UInt8 := [49, 50, 51, 52, 53, 54, 55, 56, 57]
theorem bytes_lit (w : World) (l : List UInt8) (t : TypeId) (m : Nat × Nat) : ∀ i c, l[i]? = some c → (w.alloc (.cells (l.map fun c => Value.int .u8 (byt c)).toArray t m)).cell? ⟨w.heap.size, 0 + i, none⟩ = some (.int .u8 (byt c)) := fun i c hc => by
  rw [Nat.zero_add, World.cell?_alloc_mark]
  simp [hc]
theorem Bytes.take {w : World} {a : Option Addr} {bs : List UInt8} (h : Bytes w a bs) (n : Nat) : Bytes w a (bs.take n) := by
  rcases h with rfl | ⟨b, o, ha, hc⟩
  · exact .inl (by simp)
  · exact .inr ⟨b, o, ha, fun i c hi => hc i c (by rw [List.getElem?_take] at hi; split at hi <;> simp_all)⟩
theorem Bytes.drop {w : World} {b o : Nat} {bs : List UInt8} (h : ∀ i c, bs[i]? = some c → w.cell? ⟨b, o + i, none⟩ = some (.int .u8 (byt c))) (n : Nat) : Bytes w (some ⟨b, o + n, none⟩) (bs.drop n) :=
  .inr ⟨b, o + n, rfl, fun i c hi => by rw [Nat.add_assoc]; exact h (n + i) c (by rw [List.getElem?_drop] at hi; exact hi)⟩
theorem Bytes.grown {w w' : World} {b o g : Nat} {bs : List UInt8} (h : ∀ i c, bs[i]? = some c → w.cell? ⟨b, o + i, none⟩ = some (.int .u8 (byt c))) (hg : w.grownBy w' (some g)) (hne : b ≠ g) :
    ∀ i c, bs[i]? = some c → w'.cell? ⟨b, o + i, none⟩ = some (.int .u8 (byt c)) := fun i c hi => by
  have h1 := h i c hi
  rw [World.cell?_of_block (w := w) (hg.block b (block_lt_of_cell h1) (fun e => hne (by injection e)))]
  exact h1

theorem v1 : num (sum nine) = 3421780262 := by decide +kernel
theorem v2 : num (Nt (upd (upd (BitVec.allOnes 32) (nine.take 4)) (nine.drop 4))) = 3421780262 := by decide +kernel
theorem v6 : num (join (sum (nine.take 2)) (sum (nine.drop 2)) (7 : Int).toNat) = 3421780262 := by decide +kernel
theorem v8 : num (zeros 0#32 (1 : Int).toNat) = 3523407757 := by decide +kernel

set_option maxHeartbeats 1000000 in
set_option maxRecDepth 100000 in
theorem alive_any (w : World) : Calls Try.prog 8 #[] w fun e w' => e = .returned (.bool true) ∧ Below w.heap.size w w' := by
  have kc := fun (w : World) (C : Array Value) (n c : Nat) => Lib.run_convert_bytes_const (P := Try.prog) w 22 5 C n c Try.underlying22 Try.underlying5
  go_enter Try.func8, Try.ntmps8
  go_wp2_with fail
  refine (new_any _).mono ?_
  rintro e w1 ⟨g, rfl, hg, hr, hb⟩
  have hcell : ∀ i c, nine[i]? = some c → w1.cell? ⟨w.heap.size, 0 + i, none⟩ = some (.int .u8 (byt c)) := fun i c hc => by
    have h1 := bytes_lit w nine 5 (9, 9 + 1) i c hc
    rw [← h1]
    exact hb.cell (p := ⟨w.heap.size, 0 + i, none⟩) (by simp)
  simp only [World.size_alloc] at hg
  have hne : w.heap.size ≠ g := by omega
  have hbb : Below w.heap.size w w1 := ((Below.refl _ w).alloc (Nat.le_refl _) _).trans (hb.mono (by simp))
  have H1 := Lib.hid hcell
  clear hcell hb kc
  go_wp2_with fail
  refine (write_any g 9 (some ⟨w.heap.size, 0, none⟩) (nine.take 4) (BitVec.allOnes 32) 0 w1 hr (Bytes.take (.inr ⟨_, _, rfl, H1.out⟩) 4) (by decide)).mono ?_
  rintro e w2 ⟨rfl, hr2, hg2⟩
  have H2 := Lib.hid (Bytes.grown H1.out hg2 hne)
  go_wp2_with fail
  refine (write_any g 5 (some ⟨w.heap.size, 4, none⟩) (nine.drop 4) (upd (BitVec.allOnes 32) (nine.take 4)) 4 w2 hr2 (Bytes.drop H2.out 4) (by decide)).mono ?_
  rintro e w3 ⟨rfl, hr3, hg3⟩
  have H3 := Lib.hid (Bytes.grown H2.out hg3 hne)
  have BB : ∀ d os, Bytes (grow (redrawn w3 d) os) (some ⟨w.heap.size, 0, none⟩) nine := fun d os => Bytes.below (.inr ⟨_, _, rfl, H3.out⟩) (below_regrown w3 d os)
  have B2 : ∀ d os, Bytes (grow (redrawn w3 d) os) (some ⟨w.heap.size, 2, none⟩) (nine.drop 2) := fun d os => Bytes.below (Bytes.drop H3.out 2) (below_regrown w3 d os)
  have c1 : ∀ d os, Calls Try.prog 9 #[.slice (some ⟨w.heap.size, 0, none⟩) 9 9] (grow (redrawn w3 d) os) fun e w'' => e = .returned (.int .u32 3421780262) ∧ ∃ p : Regrown, w'' = grow (redrawn w3 p.d) p.os :=
    fun d os => Calls.regrown_of ((sum_any _ nine 9 (by decide) _ (BB d os)).mono fun e w' h => ⟨by rw [h.1, v1], h.2⟩)
  have c2 : ∀ d os, Calls Try.prog 18 #[.pointer (some ⟨g, 0, none⟩)] (grow (redrawn w3 d) os) fun e w'' => e = .returned (.int .u32 3421780262) ∧ ∃ p : Regrown, w'' = grow (redrawn w3 p.d) p.os :=
    fun d os => Calls.regrown_of ((digSum_any g _ _ _ (rowIs_below hr3 (below_regrown w3 d os) hr3.lt)).mono fun e w' h => ⟨by rw [h.1, v2], by rw [← h.2]; exact Below.refl _ _⟩)
  have c3 : ∀ d os, Calls Try.prog 17 #[.pointer (some ⟨g, 0, none⟩)] (grow (redrawn w3 d) os) fun e w'' => e = .returned (.int .i64 9) ∧ ∃ p : Regrown, w'' = grow (redrawn w3 p.d) p.os :=
    fun d os => Calls.regrown_of ((digLen_any g _ _ _ (rowIs_below hr3 (below_regrown w3 d os) hr3.lt)).mono fun e w' h => ⟨by rw [h.1]; rfl, by rw [← h.2]; exact Below.refl _ _⟩)
  have c4 : ∀ d os, Calls Try.prog 9 #[.slice (some ⟨w.heap.size, 0, none⟩) 2 9] (grow (redrawn w3 d) os) fun e w'' => e = .returned (.int .u32 (num (sum (nine.take 2)))) ∧ ∃ p : Regrown, w'' = grow (redrawn w3 p.d) p.os :=
    fun d os => Calls.regrown_of (sum_any _ (nine.take 2) 9 (by decide) _ (Bytes.take (BB d os) 2))
  have c5 : ∀ d os, Calls Try.prog 9 #[.slice (some ⟨w.heap.size, 2, none⟩) 7 7] (grow (redrawn w3 d) os) fun e w'' => e = .returned (.int .u32 (num (sum (nine.drop 2)))) ∧ ∃ p : Regrown, w'' = grow (redrawn w3 p.d) p.os :=
    fun d os => Calls.regrown_of (sum_any _ (nine.drop 2) 7 (by decide) _ (B2 d os))
  have c6 : ∀ d os, Calls Try.prog 15 #[.int .u32 (num (sum (nine.take 2))), .int .u32 (num (sum (nine.drop 2))), .int .i64 7] (grow (redrawn w3 d) os) fun e w'' => e = .returned (.int .u32 3421780262) ∧ ∃ p : Regrown, w'' = grow (redrawn w3 p.d) p.os :=
    fun d os => Calls.regrown_of ((join_any _ _ 7 (by decide) _).mono fun e w' h => ⟨by rw [h.1, v6], h.2⟩)
  have c7 : ∀ d os, Calls Try.prog 9 #[.slice none 0 0] (grow (redrawn w3 d) os) fun e w'' => e = .returned (.int .u32 0) ∧ ∃ p : Regrown, w'' = grow (redrawn w3 p.d) p.os :=
    fun d os => Calls.regrown_of (sum_any none [] 0 (by decide) _ (.inl rfl))
  have c8 : ∀ d os, Calls Try.prog 13 #[.int .u32 0, .int .i64 1] (grow (redrawn w3 d) os) fun e w'' => e = .returned (.int .u32 3523407757) ∧ ∃ p : Regrown, w'' = grow (redrawn w3 p.d) p.os :=
    fun d os => Calls.regrown_of ((zeros_any 0#32 1 (by decide) _).mono fun e w' h => ⟨by rw [h.1, v8], h.2⟩)
  have hb3 : Below w.heap.size w w3 := (hbb.grown hg2 hbb.size (fun k e => by injection e with e; omega)).grown hg3 (Nat.le_trans hbb.size hg2.size) (fun k e => by injection e with e; omega)
  obtain ⟨s4, hs4⟩ : ∃ x, x = num (sum (nine.take 2)) := ⟨_, rfl⟩
  obtain ⟨s5, hs5⟩ : ∃ x, x = num (sum (nine.drop 2)) := ⟨_, rfl⟩
  rw [← hs4] at c4 c6
  rw [← hs5] at c5 c6
  have D1 := Lib.hid c1; have D2 := Lib.hid c2; have D3 := Lib.hid c3; have D4 := Lib.hid c4; have D5 := Lib.hid c5; have D6 := Lib.hid c6; have D7 := Lib.hid c7; have D8 := Lib.hid c8
  clear c1 c2 c3 c4 c5 c6 c7 c8 BB B2 H1 H2 H3 hr hr2 hr3 hs4 hs5 hbb hg2 hg3
  go_wp2_with fail
  refine wp_region_quiet_below (by kernel_rfl) (by kernel_rfl) ?_
  repeat (go_big_quiet_step (first | exact D1.out _ _ | exact D2.out _ _ | exact D3.out _ _ | exact D4.out _ _ | exact D5.out _ _ | exact D6.out _ _ | exact D7.out _ _ | exact D8.out _ _))
  refine wpQuiet_nil ?_
  intro _ hw'
  obtain ⟨⟨dq, osq⟩, hw''⟩ := hw'
  subst hw''
  go_wp2
  go_ret
  exact ⟨rfl, hb3.trans ((below_regrown w3 dq osq).mono hb3.size)⟩
end Go.Proofs.Ytmdmjnehhgdjaaa
