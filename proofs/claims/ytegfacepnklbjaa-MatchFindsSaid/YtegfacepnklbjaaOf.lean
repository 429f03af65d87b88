/- Tokens as the references have them: what the call answers. -/
import Derived.Test.YtegfacepnklbjaaRefE
import Derived.Deep.RegionLaw
import Derived.BigRegion
namespace Go.Proofs.Ytegfacepnklbjaa
open Go.RowKit
set_option linter.unusedVariables false

/-- Tokens are appended at a step of a region that draws its order. -/
theorem step_append_toks {P : Program} {ops : Array Oper} {o : Oper} {a : Act} {w : World} {K : Act → World → Prop} {Q : Exit → Act → World → Prop} {E : Prop} (hgd : o.guard = none) (s x : Operand) (t e : TypeId)
    (ho : o.op = .call { callee := .builtin .append, args := #[s, x], argTypes := #[t, t] }) (ht : P.underlying t = some (.slice e))
    (hinfo : (P.info? e).map (fun i => (i.zero, i.size, i.bytes)) = some (some (.agg #[.int .u8 0, .int .i64 0, .int .i64 0]), 3, 24))
    (B : Nat) (v : Value) (us : List Tk) (tk : Tk) (y : Addr) (hs : a.eval s = v) (hown : OwnT w B e v us) (hx : a.eval x = .slice (some y) 1 1) (hb : Toks w (some y) [tk])
    (hlen : us.length + 1 ≤ 1099511627776) (hB : B ≤ w.heap.size)
    (h : ∀ v' w', OwnT w' B e v' (us ++ [tk]) → w.grownBy w' v.ownBlock → Below B w w' → K (a.put o.dst v') w') : if Region.wanted o (yielded ops a.tmps) = true then Oper.wp P o a w K Q else E := by
  obtain ⟨i0, hi, hz0, hz1, hz2⟩ := info_parts hinfo
  have hw : Region.wanted o (yielded ops a.tmps) = true := by simp [Region.wanted, hgd]
  rw [if_pos hw]
  rcases hb with hb | ⟨b, f, hy, hc⟩
  · simp at hb
  · cases hy
    refine wp_append_own _ s x t ho B e i0 (.agg #[.int .u8 0, .int .i64 0, .int .i64 0]) 3 24 ht hi hz0 hz1 hz2 rfl (by decide) v us.length (flatT us) hs hown ⟨b, f, none⟩ 1 1 (flatT [tk]) hx (flatT_len _) (fun j u hj => ?_) (fun u hu => flatT_one hu) (by unfold maxLen; omega) (by omega) hB ?_
    · have hadd : (⟨b, f, none⟩ : Addr).add j = ⟨b, f + j, none⟩ := by unfold Addr.add; split <;> simp_all
      rw [hadd]
      exact hc j u hj
    · intro v' w' h1 h2 _
      refine h v' w' ?_ h2 (below_of_grown h2 hB (own_block hown))
      unfold OwnT
      rw [List.length_append, flatT_snoc]
      exact h1

set_option maxRecDepth 100000 in
set_option maxHeartbeats 2000000 in
theorem of_any (a : Option Addr) (n cap : Nat) (ts : List Tk) (hl : ts.length = n) (hn : n ≤ 1000000000) (w : World) (hb : Toks w a ts) :
    Calls Try.prog 10 #[.slice a n cap] w fun e w' => ∃ v, e = .returned v ∧ OwnT w' w.heap.size 51 v ts ∧ Below w.heap.size w w' := by
  have HL := Lib.hid hl; have HB := Lib.hid hb
  clear hl hb
  go_enter Try.func10, Try.ntmps10
  go_wp2_with fail
  go_loopw [3, 4] (fun v i wr => ∃ (k : Nat), k ≤ n ∧ i = .int .i64 k ∧ OwnT wr w.heap.size 51 v (ts.take k) ∧ Below w.heap.size w wr) (fun _ i _ => n - (intOf i).toNat)
  case atStart => exact ⟨0, by omega, rfl, OwnT.empty _ _, (Below.refl _ _).alloc (Nat.le_refl _) _⟩
  case round =>
    obtain ⟨k, hk, rfl, hO, hbw⟩ := hrel
    by_cases hlt : k < n
    · obtain ⟨t, ht⟩ : ∃ t, ts[k]? = some t := ⟨ts[k]'(by have := HL.out; omega), List.getElem?_eq_getElem _⟩
      obtain ⟨b, o, rfl, hc⟩ : ∃ b o, a = some ⟨b, o, none⟩ ∧ ∀ j u, (flatT ts)[j]? = some u → wr.cell? ⟨b, o + j, none⟩ = some u := by
        rcases HB.out with h | ⟨b, o, ha, hc⟩
        · rw [h] at ht; simp at ht
        · exact ⟨b, o, ha, fun j u hj => by
            have := hc j u hj
            rw [hbw.cell (block_lt_of_cell this)]; exact this⟩
      obtain ⟨c0, c1, c2⟩ := Toks.at (w := wr) (b := b) (o := o) (ts := ts) hc ht
      have htk : Hid (ts.take (k + 1) = ts.take k ++ [t]) := by unfold Hid; rw [List.take_add_one, ht]; rfl
      have hln : (ts.take k).length = k := by rw [List.length_take, HL.out]; omega
      obtain ⟨ao, oc, hv, _, _⟩ := hO.form
      rw [hln] at hv
      subst hv
      have HLN := Lib.hid hln
      have HO := Lib.hid hO
      clear hc ht hO hln
      have i1 : (0 : Int) ≤ (k : Int) := by omega
      have i2 : (k : Int) < (n : Int) := by omega
      go_wp2_with fail
      have HO' : Hid (OwnT ((wr.drew).alloc (.cells #[.int .u8 (byt t.lit), .int .i64 t.len, .int .i64 t.dist] 51)) w.heap.size 51 (.slice ao k oc) (ts.take k)) := (show OwnT wr.drew _ _ _ _ from HO.out).below ((Below.refl _ _).alloc (Nat.le_refl _) _)
      have HB' : Hid (Below w.heap.size w ((wr.drew).alloc (.cells #[.int .u8 (byt t.lit), .int .i64 t.len, .int .i64 t.dist] 51))) := (Below.drew hbw).alloc (Below.drew hbw).size _
      have HM : Hid (Toks ((wr.drew).alloc (.cells #[.int .u8 (byt t.lit), .int .i64 t.len, .int .i64 t.dist] 51)) (some ⟨wr.heap.size, 0, none⟩) [t]) := mk_one wr.drew t 51 _
      have HLE : Hid ((ts.take k).length + 1 ≤ 1099511627776) := by unfold Hid; rw [HLN.out]; omega
      go_region_law (refine step_append_toks rfl (.tmp 12) (.tmp 29) 30 51 rfl Try.underlying30 info51 w.heap.size (.slice ao k oc) (ts.take k) t ⟨wr.heap.size, 0, none⟩ (by go_simp) HO'.out (by go_simp) HM.out HLE.out HB'.out.size ?_; intro v3 w3 hO3 hg3 hb3)
      all_goals
        have HO3 : Hid (OwnT w3 w.heap.size 51 v3 (ts.take (k + 1))) := by rw [htk.out]; exact hO3
        have HB3 : Hid (Below w.heap.size w w3) := HB'.out.trans hb3
        clear hO3 hg3 hb3 hbw HO HM HO' HB'
        go_wp2_with fail
        go_roundw
        case rel => exact ⟨k + 1, by omega, by simp, HO3.out, HB3.out⟩
        case measure => simp [intOf]; omega
    · have hk2 : k = n := by omega
      have hts : ts.take k = ts := by rw [hk2, ← HL.out, List.take_length]
      rw [hts] at hO
      have HO := Lib.hid hO
      clear hO hts hk2
      go_wp2_with fail
      go_ret
      exact ⟨_, rfl, HO.out, hbw⟩
end Go.Proofs.Ytegfacepnklbjaa
