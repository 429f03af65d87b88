/- match.Expand: the bytes that tokens tell: what the call answers. -/
import Derived.Test.YtegfacepnklbjaaToks
namespace Go.Proofs.Ytegfacepnklbjaa
open Go.RowKit
set_option linter.unusedVariables false

/-- What the calls answer. -/
def Exp (lim : Nat) (ts : List Tk) (B : Nat) (e : Ending) (w' : World) : Prop :=
  ∃ ao cap, e = .returned (.tuple #[.slice ao (expT lim [] ts).1.length cap, .int .i64 (expT lim [] ts).2]) ∧ (expT lim [] ts).1.length ≤ cap ∧ (ao = none → cap = 0) ∧ Bytes w' ao (expT lim [] ts).1

theorem OwnB.form3 {w : World} {B e : Nat} {v : Value} {bs : List UInt8} (h : OwnB w B e v bs) : ∃ ao cap, v = .slice ao bs.length cap ∧ bs.length ≤ cap ∧ (ao = none → cap = 0) := by
  rcases h.2 with ⟨hv, h0⟩ | ⟨g, cap, cur, hv, hg, hh, hle, _⟩
  · exact ⟨none, 0, by rw [hv, h0], by omega, fun _ => rfl⟩
  · exact ⟨_, cap, hv, by simpa using hle, fun h => by cases h⟩
theorem okT_copy {t : Tk} (h : okT t = true) (hl : ¬ t.len = 0) : 1 ≤ t.dist ∧ t.len ≤ 258 := by
  obtain ⟨c, l, d⟩ := t
  rcases (okT_iff c l d).1 h with ⟨h1, h2⟩ | ⟨h1, h2, h3, h4, h5⟩
  · exact absurd (by simp at h1 ⊢; omega) hl
  · exact ⟨by simp; omega, by simp; omega⟩
theorem OwnB.not_block {w : World} {B g e : Nat} {v : Value} {bs : List UInt8} {cs : Array Value} {fr : Nat × Nat} (h : OwnB w B 5 v bs) (hb : w.heap[g]? = some (.cells cs e fr)) (he : e ≠ 5) : some g ≠ v.ownBlock := by
  intro hv
  rcases h.2 with ⟨rfl, _⟩ | ⟨g', cap, cur, rfl, _, hh, _⟩
  · simp [Value.ownBlock] at hv
  · simp only [Value.ownBlock, Option.some.injEq] at hv
    subst hv
    rw [hb] at hh
    simp at hh
    exact he hh.2.1
theorem cell_in {w : World} {g : Nat} {cs : Array Value} {e : Nat} {fr : Nat × Nat} {u : Value} (h : w.heap[g]? = some (.cells cs e fr)) (i : Nat) (hu : cs[i]? = some u) : w.cell? ⟨g, i, none⟩ = some u := by
  rw [cell_of_row w g i cs e fr h, hu]
theorem one_byte (w : World) (c : UInt8) (m : Nat × Nat) : Bytes (w.alloc (.cells #[.int .u8 (byt c)] 5 m)) (some ⟨w.heap.size, 0, none⟩) [c] :=
  .inr ⟨_, _, rfl, fun i d hi => by
    rw [Nat.zero_add, World.cell?_alloc_mark]
    cases i with
    | zero => simp at hi; rw [hi]; rfl
    | succ i => simp at hi⟩

set_option maxRecDepth 100000 in
set_option maxHeartbeats 2000000 in
theorem exp_some (b o n cap lim : Nat) (ts : List Tk) (hl : ts.length = n) (hn : n ≤ 1099511627776) (hlim : lim ≤ 1099511627776) (hsz : ∀ t ∈ ts, t.len ≤ 1099511627776 ∧ t.dist ≤ 1099511627776) (w : World)
    (hb : ∀ j u, (flatT ts)[j]? = some u → w.cell? ⟨b, o + j, none⟩ = some u) :
    Calls Try.prog 13 #[.slice (some ⟨b, o, none⟩) n cap, .int .i64 lim] w fun e w' => Exp lim ts w.heap.size e w' ∧ Below w.heap.size w w' := by
  have HL := Lib.hid hl; have HB := Lib.hid hb; have HS := Lib.hid hsz
  obtain ⟨R, hR⟩ : ∃ R, expT lim [] ts = R := ⟨_, rfl⟩
  unfold Exp
  rw [hR]
  have HR := Lib.hid hR
  clear hl hb hsz hR
  go_enter Try.func13, Try.ntmps13
  go_wp2_with fail
  go_loopw [6, 13] (fun v i wr => ∃ (k : Nat) (os : List UInt8), k ≤ n ∧ i = .int .i64 k ∧ OwnB wr w.heap.size 5 v os ∧ os.length ≤ lim ∧ Hid (expT lim os (ts.drop k) = R) ∧ Below w.heap.size w wr) (fun _ i _ => n - (intOf i).toNat)
  case atStart => exact ⟨0, [], by omega, rfl, OwnB.nil _ _ _, by simp, Lib.hid HR.out, Below.refl _ _⟩
  case round =>
    clear HR
    obtain ⟨k, os, hk, rfl, hO, hos, hE, hbw⟩ := hrel
    by_cases hlt : k < n
    · obtain ⟨t, ht⟩ : ∃ t, ts[k]? = some t := ⟨ts[k]'(by have := HL.out; omega), List.getElem?_eq_getElem _⟩
      have hdrop : ts.drop k = t :: ts.drop (k + 1) := by
        obtain ⟨h1, h2⟩ := List.getElem?_eq_some_iff.1 ht
        rw [List.drop_eq_getElem_cons h1, h2]
      obtain ⟨c0, c1, c2⟩ := Toks.at (w := wr) (b := b) (o := o) (ts := ts) (fun j u hj => by
        have := HB.out j u hj
        rw [hbw.cell (block_lt_of_cell this)]; exact this) ht
      obtain ⟨s1, s2⟩ := HS.out t (List.mem_of_getElem? ht)
      have hE2 := hE.out
      rw [hdrop] at hE2
      have HE := Lib.hid hE2
      obtain ⟨ao, oc, hv⟩ := hO.form'
      subst hv
      have HO := Lib.hid hO
      clear hE hE2 hdrop ht hO
      have hbW : Below w.heap.size w (wr.alloc (.cells #[.int .u8 (byt t.lit), .int .i64 t.len, .int .i64 t.dist] 34)) := hbw.alloc hbw.size _
      have HOA : OwnB (wr.alloc (.cells #[.int .u8 (byt t.lit), .int .i64 t.len, .int .i64 t.dist] 34)) w.heap.size 5 (.slice ao os.length oc) os := HO.out.below ((Below.refl _ _).alloc (Nat.le_refl _) _)
      have HBW := Lib.hid hbW; have HOB := Lib.hid HOA
      clear hbW HOA
      by_cases hok : okT t = true
      · go_wp2_with fail
        refine (right_any t _).mono ?_
        rintro e w2 ⟨rfl, h2⟩
        have d0 : w2.cell? ⟨wr.heap.size, 0, none⟩ = some (.int .u8 (byt t.lit)) := cell_at h2 (by rw [World.cell?_alloc_mark]; rfl)
        have d1 : w2.cell? ⟨wr.heap.size, 1, none⟩ = some (.int .i64 t.len) := cell_at h2 (by rw [World.cell?_alloc_mark]; rfl)
        have d2 : w2.cell? ⟨wr.heap.size, 2, none⟩ = some (.int .i64 t.dist) := cell_at h2 (by rw [World.cell?_alloc_mark]; rfl)
        have HB2 : Hid (Below w.heap.size w w2) := HBW.out.trans (h2.mono HBW.out.size)
        have HO2 : Hid (OwnB w2 w.heap.size 5 (.slice ao os.length oc) os) := HOB.out.below h2
        have HK := Lib.hid hok
        have HBK : Hid (w2.heap[wr.heap.size]? = some (.cells #[.int .u8 (byt t.lit), .int .i64 t.len, .int .i64 t.dist] 34 (0, 0))) := by
          unfold Hid; rw [h2.block _ (by rw [World.size_alloc]; omega)]; exact (MapKept.heap_alloc wr _).1
        have HNE : Hid ((Value.slice ao os.length oc).ownBlock ≠ some wr.heap.size) := fun h => by
          have := (World.ownsRow.lt HO.out _ h).2
          omega
        have HNE : Hid (some (wr.heap.size) ≠ (Value.slice ao os.length oc).ownBlock) := fun h => HNE.out h.symm
        clear h2 c0 c1 c2
        by_cases hdo : t.dist ≤ os.length
        · by_cases hlm : os.length + max t.len 1 ≤ lim
          · have HS : Hid (expT lim (stepT os t) (ts.drop (k + 1)) = R) := by
              rw [← HE.out]; unfold Hid; rw [expT, if_pos ⟨HK.out, hdo⟩, if_pos hlm]
            clear HE
            by_cases hl0 : t.len = 0
            · have hst : Hid (stepT os t = os ++ [t.lit]) := by unfold Hid stepT; rw [if_pos hl0]
              have h1 : os.length + 1 ≤ lim := by omega
              clear hlm
              go_wp2_with (at_builtin; refine wpList_append_bytes rfl (.tmp 41) (.tmp 44) 22 5 rfl Try.underlying22 info5 w.heap.size _ os [t.lit] (some ⟨w2.heap.size, 0, none⟩) 1 1 rfl (HO2.out.below ((Below.refl _ _).alloc (Nat.le_refl _) _)) rfl rfl (one_byte w2 t.lit _) (fun h => by cases h) (by simp; omega) ?c1 ?_)
              case c1 => exact (HB2.out.alloc HB2.out.size _).size
              rintro v3 w3 hO3 hg3 hb3
              have e1 : w3.cell? ⟨wr.heap.size, 1, none⟩ = some (.int .i64 ((t.len : Nat) : Int)) := hg3.cell (cell_at ((Below.refl _ _).alloc (Nat.le_refl _) _) d1) HNE.out
              have HB3 : Hid (Below w.heap.size w w3) := (HB2.out.alloc HB2.out.size _).trans hb3
              have HO3 : Hid (OwnB w3 w.heap.size 5 v3 (os ++ [t.lit])) := hO3
              clear hO3 hg3 hb3 d0 d1 d2
              go_wp2_with fail
              refine wp_loop_rounds 1 ?_
              rw [rounds_succ]
              go_wp2_with fail
              go_roundw
              case rel => exact ⟨k + 1, os ++ [t.lit], by omega, by simp, HO3.out, by simp; omega, Lib.hid (by rw [← hst.out]; exact HS.out), HB3.out⟩
              case measure => simp [intOf]; omega
            · have hst : Hid (stepT os t = cp os t.dist t.len) := by unfold Hid stepT; rw [if_neg hl0]
              have h1 : os.length + t.len ≤ lim := by omega
              have h2 : 1 ≤ t.len := by omega
              obtain ⟨h4, h5⟩ : 1 ≤ t.dist ∧ t.len ≤ 258 := okT_copy HK.out hl0
              have z1 : decide (os.length < t.dist) = false := decide_eq_false (by omega)
              have z2 : ((t.len : Int) == 0) = false := by rw [beq_eq_false_iff_ne]; omega
              have z3 : decide ((lim : Int) - (os.length : Int) < (t.len : Int)) = false := decide_eq_false (by omega)
              clear hlm
              go_wp2_with fail
              obtain ⟨g, hg⟩ : ∃ g, g = wr.heap.size := ⟨_, rfl⟩
              rw [← hg] at HBK
              rw [← hg]
              clear hg d0 d1 d2
              obtain ⟨W0, rfl⟩ : ∃ x, x = wr := ⟨_, rfl⟩
              go_loopw [6, 48] (fun v i wr2 => ∃ (j : Nat), j ≤ t.len ∧ i = .int .i64 j ∧ OwnB wr2 w.heap.size 5 v (cp os t.dist j) ∧ Hid (wr2.heap[g]? = some (.cells #[.int .u8 (byt t.lit), .int .i64 t.len, .int .i64 t.dist] 34 (0, 0))) ∧ Below w.heap.size w wr2) (fun _ i _ => t.len - (intOf i).toNat)
              case atStart => exact ⟨0, by omega, rfl, HO2.out, HBK, HB2.out⟩
              case round =>
                obtain ⟨j, hj, rfl, hO, hBK, hb2⟩ := hrel
                have hlen := cp_len os t.dist j
                by_cases hjl : j < t.len
                · have hd := cell_in hBK.out 2 (u := .int .i64 t.dist) rfl
                  obtain ⟨g2, oc2, hv, _⟩ := hO.form (by rw [hlen]; omega)
                  subst hv
                  obtain ⟨x, hx⟩ := at_some (us := cp os t.dist j) (k := os.length + j - t.dist) (by rw [hlen]; omega)
                  have hc : wr.cell? ⟨g2, os.length + j - t.dist, none⟩ = some (.int .u8 (byt x)) := hO.cell rfl hx
                  have s1 : ((os.length : Int) + (j : Int)) - (t.dist : Int) = ((os.length + j - t.dist : Nat) : Int) := by omega
                  have hcp : Hid (cp os t.dist (j + 1) = cp os t.dist j ++ [x]) := by unfold Hid; rw [cp, hlen, hx]; rfl
                  have HO3 := Lib.hid hO; have HLN := Lib.hid hlen
                  rw [hlen]
                  clear hO hlen hx
                  go_wp2_with (at_builtin; refine wpList_append_bytes rfl (.tmp 50) (.tmp 59) 22 5 rfl Try.underlying22 info5 w.heap.size _ (cp os t.dist j) [x] (some ⟨wr.heap.size, 0, none⟩) 1 1 rfl ?c0 rfl rfl (one_byte wr x _) (fun h => by cases h) ?c2 ?c1 ?_)
                  case c0 => have := HO3.out.below ((Below.refl _ _).alloc (Nat.le_refl _) (.cells #[.int .u8 (byt x)] 5)); rw [HLN.out] at this; exact this
                  case c2 => rw [HLN.out]; simp; omega
                  case c1 => exact (hb2.alloc hb2.size _).size
                  rintro v3 w3 hO3 hg3 hb3
                  have hblk : w3.heap[g]? = some (.cells #[.int .u8 (byt t.lit), .int .i64 t.len, .int .i64 t.dist] 34 (0, 0)) := by
                    have hgl : g < wr.heap.size := (Array.getElem?_eq_some_iff.1 hBK.out).1
                    have hne := HO3.out.not_block hBK.out (by decide)
                    rw [HLN.out] at hne
                    rw [hg3.block g (by rw [World.size_alloc]; omega) hne, ((Below.refl wr.heap.size wr).alloc (Nat.le_refl _) _).block g hgl]
                    exact hBK.out
                  have HBK3 := Lib.hid hblk
                  have HB3 : Hid (Below w.heap.size w w3) := (hb2.alloc hb2.size _).trans hb3
                  have HO4 : Hid (OwnB w3 w.heap.size 5 v3 (cp os t.dist (j + 1))) := by rw [hcp.out]; exact hO3
                  clear hO3 hg3 hb3 hblk hd hc
                  go_wp2_with fail
                  go_roundw
                  case rel => exact ⟨j + 1, by omega, by simp, HO4.out, HBK3, HB3.out⟩
                  case measure => simp [intOf]; omega
                · have hjj : j = t.len := by omega
                  obtain ⟨ao3, oc3, hv3, _, _⟩ := hO.form3
                  subst hv3
                  have HO4 : Hid (OwnB wr w.heap.size 5 (.slice ao3 (cp os t.dist j).length oc3) (stepT os t)) := by rw [hst.out, ← hjj]; exact hO
                  have HLN : Hid ((stepT os t).length ≤ lim) := by unfold Hid; rw [hst.out, cp_len]; omega
                  clear hO hlen hjj
                  go_wp2_with fail
                  go_roundw
                  case rel => exact ⟨k + 1, stepT os t, by omega, by simp, HO4.out, HLN.out, HS, hb2⟩
                  case measure => simp [intOf]; omega
          · have hR : R = ([], 14) := by rw [← HE.out, expT, if_pos ⟨HK.out, hdo⟩, if_neg hlm]
            have HRR := Lib.hid hR
            clear hR HE
            by_cases hl0 : t.len = 0
            · have h1 : ¬ os.length + 1 ≤ lim := by omega
              clear hlm
              go_wp2_with fail
              go_ret2
              exact ⟨⟨none, 0, by rw [HRR.out]; rfl, by rw [HRR.out]; simp, fun _ => rfl, by rw [HRR.out]; exact .inl rfl⟩, HB2.out⟩
            · have h1 : ¬ os.length + t.len ≤ lim := by omega
              have h2 : 1 ≤ t.len := by omega
              clear hlm
              go_wp2_with fail
              go_ret2
              exact ⟨⟨none, 0, by rw [HRR.out]; rfl, by rw [HRR.out]; simp, fun _ => rfl, by rw [HRR.out]; exact .inl rfl⟩, HB2.out⟩
        · have hR : R = ([], 10) := by rw [← HE.out, expT, if_neg (fun h => hdo h.2)]
          have HRR := Lib.hid hR
          clear hR HE
          go_wp2_with fail
          go_ret2
          exact ⟨⟨none, 0, by rw [HRR.out]; rfl, by rw [HRR.out]; simp, fun _ => rfl, by rw [HRR.out]; exact .inl rfl⟩, HB2.out⟩
      · have hR : R = ([], 10) := by rw [← HE.out, expT, if_neg (fun h => hok h.1)]
        have hok2 : okT t = false := by simpa using hok
        have HRR := Lib.hid hR
        clear hR hok HE
        go_wp2_with fail
        refine (right_any t _).mono ?_
        rintro e w2 ⟨rfl, h2⟩
        have HB2 : Hid (Below w.heap.size w w2) := HBW.out.trans (h2.mono HBW.out.size)
        clear h2 c0 c1 c2
        go_wp2_with fail
        go_ret2
        exact ⟨⟨none, 0, by rw [HRR.out]; rfl, by rw [HRR.out]; simp, fun _ => rfl, by rw [HRR.out]; exact .inl rfl⟩, HB2.out⟩
    · have hk2 : k = n := by omega
      obtain ⟨ao, oc, hv, ol, on⟩ := hO.form3
      subst hv
      have hEE : R = (os, 0) := by rw [← hE.out, hk2, ← HL.out, List.drop_length]; rfl
      have HO := Lib.hid hO; have HEE := Lib.hid hEE
      clear hE hO hEE hk2
      go_wp2_with fail
      go_ret2
      exact ⟨⟨ao, oc, by rw [HEE.out]; rfl, by rw [HEE.out]; exact ol, on, by rw [HEE.out]; exact HO.out.bytes' rfl⟩, hbw⟩
end Go.Proofs.Ytegfacepnklbjaa
