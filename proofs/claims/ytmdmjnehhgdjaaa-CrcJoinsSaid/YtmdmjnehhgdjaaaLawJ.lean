/- The walk of CrcJoins: it returns true for every list of rows of bytes. -/
import Derived.Test.YtmdmjnehhgdjaaaApp
namespace Go.Proofs.Ytmdmjnehhgdjaaa
open Go.RowKit Math Go.Sort

attribute [local go_sem] bits_xor bits_and bits_and_one bits_and_poly bits_xor_poly bits_not bits_not' signed_u32 num_shr num_half num_div256 num_neg bits_idx bits_idx' conv_byt

/-- Rows of bytes that lie in memory. -/
def BRows (w : World) (a : Option Addr) (ls : List (List UInt8)) : Prop :=
  ls = [] ∨ ∃ b o, a = some ⟨b, o, none⟩ ∧ ∀ i l, ls[i]? = some l → ∃ ad cap, w.cell? ⟨b, o + i, none⟩ = some (.slice ad l.length cap) ∧ Bytes w ad l ∧ (ad = none → cap = 0) ∧ l.length ≤ 9223372036854775807

theorem BRows.below {w w' : World} {a : Option Addr} {ls : List (List UInt8)} (h : BRows w a ls) (hb : Below w.heap.size w w') : BRows w' a ls := by
  rcases h with h | ⟨b, o, ha, hc⟩
  · exact .inl h
  · refine .inr ⟨b, o, ha, fun i l hi => ?_⟩
    obtain ⟨ad, cap, h1, h2, h3, h4⟩ := hc i l hi
    exact ⟨ad, cap, by rw [hb.cell (block_lt_of_cell h1)]; exact h1, h2.below hb, h3, h4⟩

theorem OwnB.form' {w : World} {B e : Nat} {v : Value} {bs : List UInt8} (h : OwnB w B e v bs) : ∃ ao cap, v = .slice ao bs.length cap := by
  rcases h.2 with ⟨hv, h0⟩ | ⟨g, cap, cur, hv, _⟩
  · exact ⟨none, 0, by rw [hv, h0]⟩
  · exact ⟨_, cap, hv⟩
theorem OwnB.bytes' {w : World} {B e cap : Nat} {ao : Option Addr} {n : Nat} {bs : List UInt8} (h : OwnB w B e (.slice ao n cap) bs) (hn : bs.length = n) : Bytes w ao bs := by
  rcases h.2 with ⟨hv, h0⟩ | ⟨g, cap', cur, hv, _⟩
  · exact .inl (List.length_eq_zero_iff.1 h0)
  · simp only [Value.slice.injEq] at hv
    obtain ⟨rfl, rfl, rfl⟩ := hv
    exact h.bytes rfl
/-- Bytes are no digest: the blocks' element types part. -/
theorem OwnB.apart {w : World} {B g n : Nat} {v : Value} {bs : List UInt8} {f : Nat → Value} (h : OwnB w B 5 v bs) (hr : w.rowIs g 47 n f) : v.ownBlock ≠ some g := by
  intro hv
  rcases h.2 with ⟨rfl, _⟩ | ⟨g', cap, cur, rfl, _, hh, _⟩
  · simp [Value.ownBlock] at hv
  · simp only [Value.ownBlock, Option.some.injEq] at hv
    subst hv
    obtain ⟨c, hc, _⟩ := hr
    rw [hh] at hc
    simp at hc
theorem OwnB.grown {w w' : World} {B e g : Nat} {v : Value} {bs : List UInt8} (h : OwnB w B e v bs) (hg : w.grownBy w' (some g)) (hne : v.ownBlock ≠ some g) : OwnB w' B e v bs := by
  unfold OwnB at h ⊢
  refine ⟨h.1, ?_⟩
  rcases h.2 with h2 | ⟨g', cap, cur, hv, hB, hh, r⟩
  · exact .inl h2
  · refine .inr ⟨g', cap, cur, hv, hB, ?_, r⟩
    rw [hg.block g' (Array.getElem?_eq_some_iff.1 hh).1 (fun e => hne (by rw [hv]; exact e))]
    exact hh
theorem rowIs_grown' {w w1 : World} {b t n : Nat} {r : Option Nat} {f : Nat → Value} (h : w.rowIs b t n f) (hg : w.grownBy w1 r) (hne : r ≠ some b) : w1.rowIs b t n f :=
  h.of_block (hg.block b h.lt (fun e => hne e.symm))

theorem sum_at (a : Option Addr) (bs : List UInt8) (n cap : Nat) (hl : bs.length = n) (hn : n ≤ 9223372036854775807) (w : World) (hb : Bytes w a bs) :
    Calls Try.prog 9 #[.slice a n cap] w fun e w' => e = .returned (.int .u32 (num (sum bs))) ∧ Below w.heap.size w w' := by
  subst hl
  exact sum_any a bs cap hn w hb
theorem cell_at {w w' : World} {a : Addr} {v : Value} (hb : Below w.heap.size w w') (h : w.cell? a = some v) : w'.cell? a = some v := by
  rw [hb.cell (block_lt_of_cell h)]; exact h
theorem info5 : (Try.prog.info? 5).map (fun i => (i.zero, i.size, i.bytes)) = some (some (.int .u8 0), 1, 1) := by kernel_rfl

/-- All bytes of the first k rows. -/
def flat (ls : List (List UInt8)) (k : Nat) : List UInt8 := (ls.take k).flatten
theorem flat_succ {ls : List (List UInt8)} {k : Nat} {l : List UInt8} (h : ls[k]? = some l) : flat ls (k + 1) = flat ls k ++ l := by
  unfold flat
  rw [List.take_add_one, h]; simp
theorem sum_flat_zero (ls : List (List UInt8)) : num (sum (flat ls 0)) = 0 := by unfold flat; rw [List.take_zero]; rfl
theorem sum_eq (bs : List UInt8) : sum bs = Nt (upd (BitVec.allOnes 32) bs) := rfl
theorem sum_join (a b : List UInt8) : join (sum a) (sum b) b.length = sum (a ++ b) := join_sum 0#32 a b
theorem sum_update (a b : List UInt8) : update (sum a) b = sum (a ++ b) := update_append 0#32 a b

theorem update_join (F l : List UInt8) (ad : Option Addr) (q cap : Nat) (hl : l.length = q) (hq : q ≤ 9223372036854775807) (w : World) (hb : Bytes w ad l) :
    Calls Try.prog 11 #[.int .u32 (num (sum F)), .slice ad q cap] w fun e w' => e = .returned (.int .u32 (num (sum (F ++ l)))) ∧ Below w.heap.size w w' := by
  subst hl
  exact (update_any (sum F) ad l cap hq w hb).mono fun e w' h => ⟨by rw [h.1, sum_update], h.2⟩
theorem write_at (g cap : Nat) (ad : Option Addr) (F l : List UInt8) (q m m' : Nat) (hl : l.length = q) (hm : m' = m + q) (hq : m + q ≤ 9223372036854775807) (w : World) (hr : w.rowIs g 47 258 (dig (upd (BitVec.allOnes 32) F) m)) (hb : Bytes w ad l) :
    Calls Try.prog 16 #[.pointer (some ⟨g, 0, none⟩), .slice ad q cap] w fun e w' => e = .returned (.tuple #[]) ∧ w'.rowIs g 47 258 (dig (upd (BitVec.allOnes 32) (F ++ l)) m') ∧ w.grownBy w' (some g) := by
  subst hl
  refine (write_any g cap ad l _ m w hr hb hq).mono fun e w' h => ⟨h.1, ?_, h.2.2⟩
  rw [upd_append, hm]
  exact h.2.1

set_option maxHeartbeats 400000 in
theorem lawJ_many (a : Option Addr) (n cap : Nat) (h : 60 < n) (w : World) :
    Calls Try.prog 4 #[.slice a n cap] w fun e w' => e = .returned (.bool true) ∧ Below w.heap.size w w' := by
  go_enter Try.func4, Try.ntmps4
  go_wp2_with (go_at_call 8; refine (alive_any _).mono ?_; rintro e w1 ⟨rfl, hb1⟩)
  go_ret
  exact ⟨rfl, hb1⟩

set_option maxHeartbeats 2000000 in
set_option maxRecDepth 100000 in
theorem lawJ_few (ls : List (List UInt8)) (a : Option Addr) (n cap : Nat) (hn : ls.length = n) (h : n ≤ 60) (w : World) (ha : BRows w a ls) :
    Calls Try.prog 4 #[.slice a n cap] w fun e w' => e = .returned (.bool true) ∧ Below w.heap.size w w' := by
  have HN := Lib.hid hn; have HA := Lib.hid ha
  clear hn ha
  go_enter Try.func4, Try.ntmps4
  go_wp2_with (first
    | (go_at_call 8; refine (alive_any _).mono ?_; rintro e w1 ⟨rfl, hb1⟩)
    | (go_at_call 14; refine (new_any _).mono ?_; rintro e w2 ⟨g, rfl, hg, hr, hb2⟩))
  have hown : OwnB w2 w1.heap.size 5 (.slice (some ⟨w1.heap.size, 0, none⟩) 0 0) [] := (OwnB.empty w1 5).below hb2
  obtain ⟨B, hB⟩ : ∃ B, B = w1.heap.size := ⟨_, rfl⟩
  have hwB : w.heap.size ≤ B := by rw [hB]; exact hb1.size
  have hbw : Below w.heap.size w w2 := (hb1.alloc hb1.size _).trans (hb2.mono (by simp; exact Nat.le_succ_of_le hb1.size))
  have hgw : w.heap.size ≤ g := by simp only [World.size_alloc] at hg; omega
  have hBs : B ≤ w2.heap.size := by have := hb2.size; simp only [World.size_alloc] at this; omega
  rw [← hB] at hown ⊢
  clear hB hb1 hb2 hg
  go_loopw [3, 4, 5, 7] (fun v s t i wr => ∃ (k m : Nat) (ao : Option Addr) (ca : Nat), k ≤ n ∧ i = .int .i64 k ∧ v = .slice ao m ca ∧ Hid ((flat ls k).length = m) ∧ m ≤ 8000 ∧ s = .int .u32 (num (sum (flat ls k))) ∧ t = .int .u32 (num (sum (flat ls k))) ∧ OwnB wr B 5 (.slice ao m ca) (flat ls k) ∧ wr.rowIs g 47 258 (dig (upd (BitVec.allOnes 32) (flat ls k)) m) ∧ B ≤ wr.heap.size ∧ Below w.heap.size w wr) (fun _ _ _ i _ => n - (intOf i).toNat)
  case atStart => exact ⟨0, 0, _, 0, by omega, rfl, rfl, Lib.hid rfl, by omega, by rw [sum_flat_zero], by rw [sum_flat_zero], hown, hr, hBs, hbw⟩
  case round =>
    clear hown hr hBs hbw
    obtain ⟨k, m, ao, ca, hk, rfl, rfl, hm, hm8, rfl, rfl, hown, hr, hBs, hbw⟩ := hrel
    obtain ⟨F, hF⟩ : ∃ F, F = flat ls k := ⟨_, rfl⟩
    rw [← hF] at hm hown hr ⊢
    have HF := Lib.hid hF
    clear hF
    by_cases hlt : k < n
    · obtain ⟨l, hl⟩ : ∃ l, ls[k]? = some l := ⟨ls[k]'(by have := HN.out; omega), List.getElem?_eq_getElem _⟩
      have hsucc := Lib.hid (flat_succ hl)
      rcases HA.out with h | ⟨b, o, rfl, hrows⟩
      · rw [h] at hl; simp at hl
      obtain ⟨ad, lc, hc0, hby, hnil, hlm⟩ := hrows k l hl
      obtain ⟨q, hq⟩ : ∃ q, q = l.length := ⟨_, rfl⟩
      rw [← hq] at hc0 hlm
      have HC := Lib.hid hc0
      have hc := cell_at hbw hc0
      have HQ := Lib.hid hq
      have HNIL := Lib.hid hnil; have HB1 := Lib.hid hby; have HO := Lib.hid hown; have HR := Lib.hid hr
      clear hl hrows hq hnil hby hown hr hc0
      by_cases hq2 : q ≤ 2000
      · by_cases hm6 : m ≤ 6000
        · go_wp2_with (at_builtin; refine wpList_append_bytes rfl (.tmp 32) (.tmp 36) 22 5 rfl Try.underlying22 info5 B _ F l ad q lc rfl HO.out rfl HQ.out.symm (HB1.out.below hbw) HNIL.out (by have := hm.out; have := HQ.out; omega) hBs ?_; intro v' w3 hown3 hg3 hb3)
          obtain ⟨ao', ca', rfl⟩ := hown3.form'
          obtain ⟨m', hm'⟩ : ∃ m', m' = (F ++ l).length := ⟨_, rfl⟩
          have hmm : m' = m + q := by rw [hm', List.length_append, hm.out, HQ.out]
          rw [← hm'] at hown3 ⊢
          have hB3 := Nat.le_trans hBs hb3.size
          have hbw3 : Below w.heap.size w w3 := hbw.trans (hb3.mono hwB)
          have hr3 := rowIs_grown' HR.out hg3 (OwnB.apart HO.out HR.out)
          have hby3 := HB1.out.below hbw3
          have hc3 := cell_regrown (cell_at hbw3 HC.out)
          have c9 : ∀ d os, Calls Try.prog 9 #[.slice ad q lc] (grow (redrawn w3 d) os) fun e w'' => e = .returned (.int .u32 (num (sum l))) ∧ ∃ p : Regrown, w'' = grow (redrawn w3 p.d) p.os :=
            fun d os => Calls.regrown_of (sum_at ad l q lc HQ.out.symm (by omega) _ (hby3.below (below_regrown w3 d os)))
          have c15 : ∀ d os, Calls Try.prog 15 #[.int .u32 (num (sum F)), .int .u32 (num (sum l)), .int .i64 q] (grow (redrawn w3 d) os) fun e w'' => e = .returned (.int .u32 (num (sum (F ++ l)))) ∧ ∃ p : Regrown, w'' = grow (redrawn w3 p.d) p.os :=
            fun d os => Calls.regrown_of ((join_any _ _ q (by omega) _).mono fun e w' h => ⟨by rw [h.1, Int.toNat_natCast, HQ.out, sum_join], h.2⟩)
          have D1 := Lib.hid c9; have D2 := Lib.hid c15; have HO3 := Lib.hid hown3; have HR3 := Lib.hid hr3; have HY3 := Lib.hid hby3; have HM := Lib.hid hmm; have HM' := Lib.hid hm'
          clear c9 c15 hown3 hr3 hby3 hmm hm' hc
          refine wp_region_quiet_below (by kernel_rfl) (by kernel_rfl) ?_
          repeat (go_big_quiet_step (first | exact D1.out _ _ | exact D2.out _ _))
          refine wpQuiet_nil ?_
          intro _ hw'
          obtain ⟨⟨dq, osq⟩, hw''⟩ := hw'
          obtain ⟨w4, hw4⟩ : ∃ w4, w4 = grow (redrawn w3 dq) osq := ⟨_, rfl⟩
          rw [← hw4] at hw''
          have hb4 : Below w3.heap.size w3 w4 := by rw [hw4]; exact below_regrown w3 dq osq
          subst hw''
          clear hw4 hc3 D1 D2
          have hbw4 := hbw3.trans (hb4.mono hbw3.size)
          have hc4 := cell_at hbw4 HC.out
          have HR4 := Lib.hid (rowIs_below HR3.out hb4 HR3.out.lt); have HO4 := Lib.hid (HO3.out.below hb4); have HY4 := Lib.hid (HY3.out.below hb4)
          have hB4 := Nat.le_trans hB3 hb4.size
          have hm'8 : m' ≤ 8000 := by have := HM.out; omega
          clear HR3 HO3 HY3 hb4 HR
          go_wp2_with (first
            | (go_at_call 11; refine (update_join F l ad q lc HQ.out.symm (by omega) _ HY4.out).mono ?_; rintro e w5 ⟨rfl, hb5⟩; have hbw5 := hbw4.trans (hb5.mono hbw4.size); have hc5 := cell_at hbw5 HC.out; have HR5 := Lib.hid (rowIs_below HR4.out hb5 HR4.out.lt); have HY5 := Lib.hid (HY4.out.below hb5))
            | (go_at_call 16; refine (write_at g lc ad F l q m m' HQ.out.symm HM.out (by omega) _ HR5.out HY5.out).mono ?_; rintro e w6 ⟨rfl, hr6, hg6⟩; have HR6 := Lib.hid hr6)
            | (go_at_call 17; refine (digLen_any g _ _ _ HR6.out).mono ?_; rintro e w7 ⟨rfl, rfl⟩)
            | (go_at_call 18; refine (digSum_any g _ _ _ HR6.out).mono ?_; rw [← sum_eq]; rintro e w7 ⟨rfl, rfl⟩))
          go_roundw
          case rel =>
            refine ⟨k + 1, m', ao', ca', by omega, by go_num, rfl, ?_, hm'8, by rw [hsucc.out, ← HF.out], by rw [hsucc.out, ← HF.out], ?_, ?_, ?_, ?_⟩
            · rw [hsucc.out, ← HF.out]; exact Lib.hid HM'.out.symm
            · rw [hsucc.out, ← HF.out]; exact (HO4.out.below hb5).grown hg6 (OwnB.apart (HO4.out.below hb5) HR5.out)
            · rw [hsucc.out, ← HF.out]; exact hr6
            · exact Nat.le_trans (Nat.le_trans hB4 hb5.size) hg6.size
            · exact hbw5.grown hg6 hbw5.size (fun k e => by injection e with e; omega)
          case measure => simp [intOf]; omega
        · go_wp2
          go_ret
          exact ⟨rfl, hbw⟩
      · go_wp2
        go_ret
        exact ⟨rfl, hbw⟩
    · obtain rfl : k = n := by omega
      have HO := Lib.hid hown; have HB := Lib.hid (hown.bytes' hm.out)
      clear hown hr
      go_wp2_with (go_at_call 9; refine (sum_at ao F m ca hm.out (by omega) _ HB.out).mono ?_; rintro e w3 ⟨rfl, hb3⟩)
      go_ret
      exact ⟨rfl, hbw.trans (hb3.mono hbw.size)⟩

theorem lawJ (ls : List (List UInt8)) (a : Option Addr) (cap : Nat) (hl : ls.length ≤ 9223372036854775807) (w : World) (ha : BRows w a ls) :
    Calls Try.prog 4 #[.slice a ls.length cap] w fun e w' => e = .returned (.bool true) ∧ Below w.heap.size w w' := by
  by_cases h : ls.length ≤ 60
  · exact lawJ_few ls a ls.length cap rfl h w ha
  · exact lawJ_many a ls.length cap (by omega) w
end Go.Proofs.Ytmdmjnehhgdjaaa
