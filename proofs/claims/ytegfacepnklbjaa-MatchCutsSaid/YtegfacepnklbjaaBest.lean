/- The longest copy at a place: what the call answers. -/
import Derived.Test.YtegfacepnklbjaaEnter
import Derived.Test.YtegfacepnklbjaaTri
import Derived.Test.YtegfacepnklbjaaRight
namespace Go.Proofs.Ytegfacepnklbjaa
open Go.RowKit Go.Maps
set_option linter.unusedVariables false

theorem Fin.c0 {w : World} {F M V b o n cap : Nat} {bs : List UInt8} {ch en : Nat} {lz : Bool} {nx : Nat} (h : Fin w F M V b o n cap bs ch en lz nx) : w.cell? ⟨F, 0, none⟩ = some (.slice (some ⟨b, o, none⟩) n cap) := cell_of_blk h.blk 0 rfl
theorem Fin.c1 {w : World} {F M V b o n cap : Nat} {bs : List UInt8} {ch en : Nat} {lz : Bool} {nx : Nat} (h : Fin w F M V b o n cap bs ch en lz nx) : w.cell? ⟨F, 1, none⟩ = some (.int .i64 ch) := cell_of_blk h.blk 1 rfl
theorem Fin.c2 {w : World} {F M V b o n cap : Nat} {bs : List UInt8} {ch en : Nat} {lz : Bool} {nx : Nat} (h : Fin w F M V b o n cap bs ch en lz nx) : w.cell? ⟨F, 2, none⟩ = some (.int .i64 en) := cell_of_blk h.blk 2 rfl
theorem Fin.c3 {w : World} {F M V b o n cap : Nat} {bs : List UInt8} {ch en : Nat} {lz : Bool} {nx : Nat} (h : Fin w F M V b o n cap bs ch en lz nx) : w.cell? ⟨F, 3, none⟩ = some (.bool lz) := cell_of_blk h.blk 3 rfl
theorem Fin.c4 {w : World} {F M V b o n cap : Nat} {bs : List UInt8} {ch en : Nat} {lz : Bool} {nx : Nat} (h : Fin w F M V b o n cap bs ch en lz nx) : w.cell? ⟨F, 4, none⟩ = some (.map (some M)) := cell_of_blk h.blk 4 rfl
theorem Fin.c5 {w : World} {F M V b o n cap : Nat} {bs : List UInt8} {ch en : Nat} {lz : Bool} {nx : Nat} (h : Fin w F M V b o n cap bs ch en lz nx) : w.cell? ⟨F, 5, none⟩ = some (.slice (some ⟨V, 0, none⟩) n n) := cell_of_blk h.blk 5 rfl
theorem Fin.c6 {w : World} {F M V b o n cap : Nat} {bs : List UInt8} {ch en : Nat} {lz : Bool} {nx : Nat} (h : Fin w F M V b o n cap bs ch en lz nx) : w.cell? ⟨F, 6, none⟩ = some (.int .i64 nx) := cell_of_blk h.blk 6 rfl
abbrev zT : Obj := .cells #[.int .u8 0, .int .i64 0, .int .i64 0] 34
theorem Fin.other {w : World} {F M V b o n cap : Nat} {bs : List UInt8} {ch en : Nat} {lz : Bool} {nx : Nat} (h : Fin w F M V b o n cap bs ch en lz nx) {a : Addr} (h1 : F ≠ a.block) (h2 : M ≠ a.block) (h3 : V ≠ a.block) (h4 : b ≠ a.block) (u : Value) : Fin (w.setCell a u) F M V b o n cap bs ch en lz nx := by
  obtain ⟨cur, p1, p2, p3⟩ := h.prev
  obtain ⟨D, m, m4, m5, m6⟩ := h.map
  refine ⟨?_, ⟨cur, ?_, p2, p3⟩, ⟨D, m, m4.setCell h2 _, m5, m6⟩, fun i c hi => ?_, h.apart, h.le⟩
  · rw [heap_setCell_other w a F _ h1]; exact h.blk
  · rw [heap_setCell_other w a V _ h3]; exact p1
  · have := h.lie i c hi
    rw [World.cell?_of_block (w := w) (heap_setCell_other w a b _ h4)]; exact this
theorem Tur.set_new {w w1 : World} {F M V g : Nat} (h : Tur w w1 F M V) (hg : w.heap.size ≤ g) (i : Nat) (u : Value) : Tur w (w1.setCell ⟨g, i, none⟩ u) F M V :=
  ⟨h.os, h.tape, h.output, by rw [World.size_setCell]; exact h.size, fun k hk h1 h2 h3 => by rw [heap_setCell_other w1 ⟨g, i, none⟩ k _ (by show k ≠ g; omega)]; exact h.block k hk h1 h2 h3⟩
theorem back_good {bs : List UInt8} {p d k : Nat} (h : Back bs p d 258 k) (hk : 3 ≤ k) (hd : 1 ≤ d) (hdp : d ≤ p) (hp : p ≤ 32768) : good bs p ⟨0, k, d⟩ :=
  .inr ⟨hk, h.le, hd, by show d ≤ 32768; omega, rfl, hdp, h.fits, h.eq⟩
theorem back_three {bs : List UInt8} {p q d k : Nat} (h : Back bs p d 258 k) (hpd : p = q + d) (hp : p + 3 ≤ bs.length) (he : triAt bs q = triAt bs p) : 3 ≤ k := by
  rcases Nat.lt_or_ge k 3 with hk | hk
  · rcases h.stop with h1 | h1 | h1
    · omega
    · omega
    · have := tri_same (p := p) (q := q) hp (by omega) he k hk
      exact absurd (by rw [← this]; congr 1; omega) h1
  · exact hk
theorem blk3 {w : World} {g : Nat} {x y z : Value} {e : Nat} (h : w.heap[g]? = some (.cells #[x, y, z] e (0, 0))) :
    w.cell? ⟨g, 0, none⟩ = some x ∧ w.cell? ⟨g, 1, none⟩ = some y ∧ w.cell? ⟨g, 2, none⟩ = some z ∧ w.frozen? ⟨g, 0, none⟩ = false ∧ w.frozen? ⟨g, 1, none⟩ = false ∧ w.frozen? ⟨g, 2, none⟩ = false :=
  ⟨cell_of_blk h 0 rfl, cell_of_blk h 1 rfl, cell_of_blk h 2 rfl, frozen_of_blk h 0, frozen_of_blk h 1, frozen_of_blk h 2⟩
theorem set3 {w : World} {g : Nat} {x y z a b c : Value} {e : Nat} (h : w.heap[g]? = some (.cells #[x, y, z] e (0, 0))) :
    (((w.setCell ⟨g, 0, none⟩ a).setCell ⟨g, 1, none⟩ b).setCell ⟨g, 2, none⟩ c).heap[g]? = some (.cells #[a, b, c] e (0, 0)) := by
  rw [heap_setCell_same _ g 2 _ e _ (heap_setCell_same _ g 1 _ e _ (heap_setCell_same w g 0 _ e _ h))]; rfl
theorem Fin.set3 {w X : World} {F M V b o n cap g : Nat} {bs : List UInt8} {ch en : Nat} {lz : Bool} {nx : Nat} (h : Fin X F M V b o n cap bs ch en lz nx) (hT : Tur w X F M V) (h1 : F < w.heap.size) (h2 : M < w.heap.size) (h3 : V < w.heap.size) (h4 : b < w.heap.size) (hg : w.heap.size ≤ g) (x y z : Value) :
    Fin (((X.setCell ⟨g, 0, none⟩ x).setCell ⟨g, 1, none⟩ y).setCell ⟨g, 2, none⟩ z) F M V b o n cap bs ch en lz nx ∧ Tur w (((X.setCell ⟨g, 0, none⟩ x).setCell ⟨g, 1, none⟩ y).setCell ⟨g, 2, none⟩ z) F M V :=
  ⟨((h.other (a := ⟨g, 0, none⟩) (by show F ≠ g; omega) (by show M ≠ g; omega) (by show V ≠ g; omega) (by show b ≠ g; omega) x).other (a := ⟨g, 1, none⟩) (by show F ≠ g; omega) (by show M ≠ g; omega) (by show V ≠ g; omega) (by show b ≠ g; omega) y).other (a := ⟨g, 2, none⟩) (by show F ≠ g; omega) (by show M ≠ g; omega) (by show V ≠ g; omega) (by show b ≠ g; omega) z,
   ((hT.set_new hg 0 x).set_new hg 1 y).set_new hg 2 z⟩
/-- A copy, or none. -/
def copyT (bs : List UInt8) (p : Nat) (t : Tk) : Prop := (t = ⟨0, 0, 0⟩) ∨ (3 ≤ t.len ∧ good bs p t)
/-- What the search at a place answers. -/
structure Best (bs : List UInt8) (ch p : Nat) (t : Tk) : Prop where
  copy : copyT bs p t
  none : ch = 0 → t.len = 0
  some : 1 ≤ ch → Again bs p → 3 ≤ t.len

set_option maxRecDepth 100000 in
set_option maxHeartbeats 2000000 in
theorem best_any (F M V b o n cap ch en : Nat) (lz : Bool) (bs : List UInt8) (nx p : Nat) (hl : bs.length = n) (hn : n ≤ 32768) (hcap : n ≤ cap) (hpn : p ≤ n) (hnp : nx ≤ p) (hch : ch ≤ 4096) (hen : en ≤ 258) (w : World) (hf : Fin w F M V b o n cap bs ch en lz nx) :
    Calls Try.prog 16 #[.pointer (some ⟨F, 0, none⟩), .int .i64 p] w fun e w' => ∃ t, e = .returned (tkV t) ∧ Best bs ch p t ∧ (∃ nx', nx' ≤ p ∧ Fin w' F M V b o n cap bs ch en lz nx') ∧ Tur w w' F M V := by
  have HL := Lib.hid hl
  have hFl : F < w.heap.size := (Array.getElem?_eq_some_iff.1 hf.blk).1
  have hVl : V < w.heap.size := by obtain ⟨cur, h1, _⟩ := hf.prev; exact (Array.getElem?_eq_some_iff.1 h1).1
  have hMl : M < w.heap.size := by obtain ⟨D, m, h1, _⟩ := hf.map; exact h1.lt
  have HF2 := Lib.hid (hf.keep (((Below.refl w.heap.size w).alloc (Nat.le_refl _) (.cells #[.int .u8 0, .int .i64 0, .int .i64 0] 34)).alloc (by simp) (.cells #[.int .u8 0, .int .i64 0, .int .i64 0] 34)))
  have HT2 : Hid (Tur w ((w.alloc (.cells #[.int .u8 0, .int .i64 0, .int .i64 0] 34)).alloc (.cells #[.int .u8 0, .int .i64 0, .int .i64 0] 34)) F M V) := Tur.of_below _ _ _ (((Below.refl w.heap.size w).alloc (Nat.le_refl _) (.cells #[.int .u8 0, .int .i64 0, .int .i64 0] 34)).alloc (by simp) (.cells #[.int .u8 0, .int .i64 0, .int .i64 0] 34))
  have e0 := HF2.out.c0
  have HBL : 3 ≤ n → b < w.heap.size := fun h3 => by
    obtain ⟨c0, hc0⟩ := at_some (us := bs) (k := 0) (by omega)
    exact block_lt_of_cell (hf.lie 0 c0 hc0)
  clear hl hf
  by_cases hp : p + 3 ≤ n
  · have z1 : decide ((n : Int) < (p : Int) + 3) = false := decide_eq_false (by omega)
    go_enter Try.func16, Try.ntmps16
    go_wp2_with fail
    refine (enter_any F M V b o n cap ch en lz bs nx p HL.out (by omega) hcap hp hnp _ HF2.out).mono ?_
    rintro e w3 ⟨rfl, hF3, hT3⟩
    have hR : Hid (w3.heap[w.heap.size]? = some (.cells #[.int .u8 0, .int .i64 0, .int .i64 0] 34 (0, 0))) := by
      unfold Hid
      rw [hT3.block _ (by simp; omega) (by omega) (by omega) (by omega), ((Below.refl (w.alloc (.cells #[.int .u8 0, .int .i64 0, .int .i64 0] 34)).heap.size _).alloc (Nat.le_refl _) _).block _ (by simp)]
      exact (MapKept.heap_alloc w _).1
    have hO : Hid (w3.heap[w.heap.size + 1]? = some (.cells #[.int .u8 0, .int .i64 0, .int .i64 0] 34 (0, 0))) := by
      unfold Hid
      rw [hT3.block _ (by simp) (by omega) (by omega) (by omega)]
      have := (MapKept.heap_alloc (w.alloc (.cells #[.int .u8 0, .int .i64 0, .int .i64 0] 34)) (.cells #[.int .u8 0, .int .i64 0, .int .i64 0] 34)).1
      rw [World.size_alloc] at this
      exact this
    have HT3 : Hid (Tur w w3 F M V) := HT2.out.trans hT3
    have HF3 := Lib.hid hF3
    clear hT3 hF3 HT2 HF2 e0
    obtain ⟨D, m, hM, hm, hH⟩ := HF3.out.map
    have hkey : keyOf Try.prog 55 (.int .u32 (triAt bs p)) = some (keyA (triAt bs p)) := keyOf_int_mk Try.underlying55 (tri_wf _ _ _)
    obtain ⟨c, _, hat, _⟩ := hM.lookup_int keyed55 Try.underlying45 Try.underlying3 (zero3 _) hkey
    obtain ⟨x0, rfl, hx0, hxp⟩ := hH.at hat
    have hrun : ∀ k, (Instr.lookup 45 (.map (some M)) (.int .u32 (triAt bs p)) false).run Try.prog (w3.drewN k) = .ok (.int .i64 x0) (w3.drewN k) := fun k => by
      obtain ⟨c2, hr, hat2, _⟩ := (show (w3.drewN k).ownsMap Try.prog 55 (plainElem Try.prog 3) M m D from hM.kept (row := none) ⟨rfl, rfl, rfl, Nat.le_refl _, fun _ _ _ => rfl⟩ (by simp)).lookup_int keyed55 Try.underlying45 Try.underlying3 (zero3 _) hkey
      have e2 : (x0 : Int) = c2 := by have := hat.symm.trans hat2; simpa using this
      rw [hr, e2]
    have HTH : Hid (∀ k, Calls Try.prog 22 #[.pointer (some ⟨F, 0, none⟩), .int .i64 p] (w3.drewN k) fun e w' => e = .returned (.int .u32 (triAt bs p)) ∧ ∃ q, w' = (w3.drewN k).drewN q) := fun k => by
      have hFk := HF3.out.drewN k
      obtain ⟨c0, c1, c2, hc0, hc1, hc2, htr⟩ := hFk.bytes (p := p) (by rw [HL.out]; omega)
      rw [← htr]
      exact three_at F b o n cap p c0 c1 c2 (by omega) (by omega) hcap _ hFk.c0 hc0 hc1 hc2
    have e4 := HF3.out.c4
    have e1 := HF3.out.c1
    have HXP := Lib.hid hxp
    clear hM hm hH hkey hat hxp
    go_wp2_with fail
    go_quiet (first | (go_at_call 22; refine Calls.quiet_of (HTH.out _)))
    go_wp2_with fail
    have HF4 : Hid (Fin (w3.drewN nq) F M V b o n cap bs ch en lz p) := HF3.out.drewN nq
    have HT4 : Hid (Tur w (w3.drewN nq) F M V) := HT3.out.trans (Tur.of_below _ _ _ (Below.drewN (Below.refl _ _) _))
    have HR4 : Hid ((w3.drewN nq).heap[w.heap.size]? = some (.cells #[.int .u8 0, .int .i64 0, .int .i64 0] 34 (0, 0))) := hR
    have HO4 : Hid ((w3.drewN nq).heap[w.heap.size + 1]? = some (.cells #[.int .u8 (byt 0), .int .i64 ((0 : Nat) : Int), .int .i64 ((0 : Nat) : Int)] 34 (0, 0))) := hO
    clear HF3 HT3 hR hO hrun HTH e1 e4
    generalize w3.drewN nq = w4 at HF4 HT4 HR4 HO4 ⊢
    have hbl : b < w.heap.size := HBL (by omega)
    go_loopw [6, 7] (fun fr tr wr => ∃ (x y : Nat) (t : Tk), x ≤ p ∧ y ≤ ch ∧ fr = .int .i64 x ∧ tr = .int .i64 y ∧ Hid (wr.heap[w.heap.size]? = some (.cells #[.int .u8 0, .int .i64 0, .int .i64 0] 34 (0, 0))) ∧
      Hid (wr.heap[w.heap.size + 1]? = some (.cells #[.int .u8 (byt t.lit), .int .i64 t.len, .int .i64 t.dist] 34 (0, 0))) ∧ Hid (copyT bs p t) ∧ Hid (Again bs p → 3 ≤ t.len ∨ (x = x0 ∧ y = ch)) ∧ Hid (ch = 0 → t.len = 0) ∧
      Hid (Fin wr F M V b o n cap bs ch en lz p) ∧ Hid (Tur w wr F M V)) (fun _ tr _ => (intOf tr).toNat)
    case atStart => exact ⟨x0, ch, ⟨0, 0, 0⟩, hx0, Nat.le_refl _, rfl, rfl, HR4, HO4, .inl rfl, fun _ => .inr ⟨rfl, rfl⟩, fun _ => rfl, HF4, HT4⟩
    case round =>
      clear HF4 HT4 HR4 HO4
      obtain ⟨x, y, t, hxp, hyc, rfl, rfl, HR, HO, HC, HS, HZ, HF, HT⟩ := hrel
      by_cases hx : 0 < x
      · have i1 : (0 : Int) < (x : Int) := by omega
        by_cases hy : 0 < y
        · have i2 : (0 : Int) < (y : Int) := by omega
          obtain ⟨q, hq⟩ : ∃ q, x = q + 1 := ⟨x - 1, by omega⟩
          subst hq
          obtain ⟨d, hpd⟩ : ∃ d, p = q + d := ⟨p - q, by omega⟩
          have hd1 : 1 ≤ d := by omega
          have s1 : (p : Int) - (q : Int) = (d : Int) := by omega
          have s2 : ¬ (32768 : Int) < (d : Int) := by omega
          have g0 := HF.out.c0
          have hcall := back_at b o n cap q d 258 bs HL.out (by omega) hcap (by omega) (by omega) hd1 wr HF.out.lie
          rw [← hpd] at hcall
          have HPD := Lib.hid hpd
          have HCALL := Lib.hid hcall
          have hdp : d ≤ p := by omega
          clear hpd hcall
          obtain ⟨o0, o1, o2, of0, of1, of2⟩ := blk3 HO.out
          go_wp2_with fail
          refine HCALL.out.mono ?_
          rintro e w5 ⟨⟨k, rfl, hk⟩, hb5⟩
          have HK := Lib.hid hk
          have HF5 := Lib.hid (HF.out.keep hb5)
          have HT5 : Hid (Tur w w5 F M V) := HT.out.trans (Tur.of_below _ _ _ hb5)
          have HR5 : Hid (w5.heap[w.heap.size]? = some (.cells #[.int .u8 0, .int .i64 0, .int .i64 0] 34 (0, 0))) := by
            unfold Hid; rw [hb5.block _ (Array.getElem?_eq_some_iff.1 HR.out).1]; exact HR.out
          have HO5 : Hid (w5.heap[w.heap.size + 1]? = some (.cells #[.int .u8 (byt t.lit), .int .i64 t.len, .int .i64 t.dist] 34 (0, 0))) := by
            unfold Hid; rw [hb5.block _ (Array.getElem?_eq_some_iff.1 HO.out).1]; exact HO.out
          have hk3 : Hid (q + 1 = x0 → Again bs p → 3 ≤ k) := fun h1 h2 => by
            obtain ⟨h3, r, hr, he⟩ := h2
            have := (HXP.out ⟨r, hr, tri_again he⟩).2
            rw [← h1, Nat.add_sub_cancel] at this
            exact back_three HK.out HPD.out h3 this
          have hke : k ≤ 258 := hk.le
          clear hk hb5 HF HT HR HO HCALL o0 o1 o2 of0 of1 of2 g0
          obtain ⟨o0, o1, o2, of0, of1, of2⟩ := blk3 HO5.out
          by_cases hbet : 3 ≤ k ∧ t.len < k
          · obtain ⟨hka, hkb⟩ := hbet
            have hG : Hid (good bs p ⟨0, k, d⟩) := back_good HK.out hka hd1 hdp (by omega)
            have j1 : (3 : Int) ≤ (k : Int) := by omega
            have j2 : (t.len : Int) < (k : Int) := by omega
            have HO6 : Hid ((((w5.setCell ⟨w.heap.size + 1, 0, none⟩ (.int .u8 0)).setCell ⟨w.heap.size + 1, 1, none⟩ (.int .i64 k)).setCell ⟨w.heap.size + 1, 2, none⟩ (.int .i64 d)).heap[w.heap.size + 1]? = some (.cells #[.int .u8 0, .int .i64 k, .int .i64 d] 34 (0, 0))) := set3 HO5.out
            have HR6 : Hid ((((w5.setCell ⟨w.heap.size + 1, 0, none⟩ (.int .u8 0)).setCell ⟨w.heap.size + 1, 1, none⟩ (.int .i64 k)).setCell ⟨w.heap.size + 1, 2, none⟩ (.int .i64 d)).heap[w.heap.size]? = some (.cells #[.int .u8 0, .int .i64 0, .int .i64 0] 34 (0, 0))) := by
              unfold Hid
              rw [heap_setCell_other _ _ _ _ (by show w.heap.size ≠ w.heap.size + 1; omega), heap_setCell_other _ _ _ _ (by show w.heap.size ≠ w.heap.size + 1; omega), heap_setCell_other _ _ _ _ (by show w.heap.size ≠ w.heap.size + 1; omega)]
              exact HR5.out
            obtain ⟨hF6, hT6⟩ := HF5.out.set3 HT5.out hFl hMl hVl hbl (by omega : w.heap.size ≤ w.heap.size + 1) (.int .u8 0) (.int .i64 k) (.int .i64 d)
            have g2 := hF6.c2
            have g5 := hF6.c5
            obtain ⟨cur, hV, hVs, hVi⟩ := hF6.prev
            obtain ⟨v, hv, hvq⟩ := hVi q (by omega)
            have g7 := cell_of_blk hV q hv
            have HF6 := Lib.hid hF6; have HT6 := Lib.hid hT6
            clear hF6 hT6 hV hVs hVi hv HF5 HT5 HO5 HK
            by_cases hen2 : en ≤ k
            · have j3 : (en : Int) ≤ (k : Int) := by omega
              obtain ⟨r0, r1, r2, rf0, rf1, rf2⟩ := blk3 HR5.out
              obtain ⟨v0, v1, v2, vf0, vf1, vf2⟩ := blk3 HR6.out
              go_wp2_with fail
              obtain ⟨hF9, hT9⟩ := HF6.out.set3 HT6.out hFl hMl hVl hbl (Nat.le_refl _) (.int .u8 0) (.int .i64 k) (.int .i64 d)
              refine bodyPost_ret (v := .agg #[.int .u8 0, .int .i64 k, .int .i64 d]) (by simp [results, Try.f16, go_sem, v0, v1, v2]) rfl ⟨⟨0, k, d⟩, rfl, ⟨.inr ⟨hka, hG.out⟩, fun h => by omega, fun _ _ => hka⟩, ⟨p, Nat.le_refl _, hF9⟩, hT9⟩
            · have j3 : ¬ (en : Int) ≤ (k : Int) := by omega
              go_wp2_with fail
              go_roundw
              case rel => exact ⟨v, y - 1, ⟨0, k, d⟩, by omega, by omega, by simp, by simp; omega, HR6, HO6, .inr ⟨hka, hG.out⟩, fun _ => .inl hka, fun h => by omega, HF6, HT6⟩
              case measure => simp [intOf]; omega
          · have g5 := HF5.out.c5
            obtain ⟨cur, hV, hVs, hVi⟩ := HF5.out.prev
            obtain ⟨v, hv, hvq⟩ := hVi q (by omega)
            have g7 := cell_of_blk hV q hv
            clear hV hVs hVi hv
            by_cases hka : 3 ≤ k
            · have hkb : ¬ t.len < k := by omega
              clear hbet
              go_wp2_with fail
              go_roundw
              case rel => exact ⟨v, y - 1, t, by omega, by omega, by simp, by simp; omega, HR5, HO5, HC, fun _ => .inl (by omega), HZ, HF5, HT5⟩
              case measure => simp [intOf]; omega
            · have hs : Hid (Again bs p → 3 ≤ t.len) := fun h2 => by
                rcases HS.out h2 with h | ⟨h, _⟩
                · exact h
                · exact absurd (hk3.out h h2) hka
              clear hbet
              go_wp2_with fail
              go_roundw
              case rel => exact ⟨v, y - 1, t, by omega, by omega, by simp, by simp; omega, HR5, HO5, HC, fun h => .inl (hs.out h), HZ, HF5, HT5⟩
              case measure => simp [intOf]; omega
        · have hs : Hid (1 ≤ ch → Again bs p → 3 ≤ t.len) := fun h1 h2 => by
            rcases HS.out h2 with h | ⟨_, h⟩
            · exact h
            · omega
          have hy0 : y = 0 := by omega
          subst hy0
          obtain ⟨o0, o1, o2, _, _, _⟩ := blk3 HO.out
          obtain ⟨r0, r1, r2, rf0, rf1, rf2⟩ := blk3 HR.out
          go_wp2_with fail
          obtain ⟨hF9, hT9⟩ := HF.out.set3 HT.out hFl hMl hVl hbl (Nat.le_refl _) (.int .u8 (byt t.lit)) (.int .i64 t.len) (.int .i64 t.dist)
          refine bodyPost_ret (v := .agg #[.int .u8 (byt t.lit), .int .i64 t.len, .int .i64 t.dist]) (by simp [results, Try.f16, go_sem, r0, r1, r2]) rfl ⟨t, rfl, ?_, ⟨p, Nat.le_refl _, hF9⟩, hT9⟩
          exact ⟨HC.out, HZ.out, hs.out⟩
      · have hs : Hid (1 ≤ ch → Again bs p → 3 ≤ t.len) := fun h1 h2 => by
          rcases HS.out h2 with h | ⟨h, _⟩
          · exact h
          · obtain ⟨_, q, hq, he⟩ := h2
            have := (HXP.out ⟨q, hq, tri_again he⟩).1
            omega
        have hx1 : x = 0 := by omega
        clear HXP
        subst hx1
        obtain ⟨o0, o1, o2, _, _, _⟩ := blk3 HO.out
        obtain ⟨r0, r1, r2, rf0, rf1, rf2⟩ := blk3 HR.out
        go_wp2_with fail
        obtain ⟨hF9, hT9⟩ := HF.out.set3 HT.out hFl hMl hVl hbl (Nat.le_refl _) (.int .u8 (byt t.lit)) (.int .i64 t.len) (.int .i64 t.dist)
        refine bodyPost_ret (v := .agg #[.int .u8 (byt t.lit), .int .i64 t.len, .int .i64 t.dist]) (by simp [results, Try.f16, go_sem, r0, r1, r2]) rfl ⟨t, rfl, ?_, ⟨p, Nat.le_refl _, hF9⟩, hT9⟩
        exact ⟨HC.out, HZ.out, hs.out⟩
  · have i1 : ¬ (p : Int) + 3 ≤ (n : Int) := by omega
    go_enter Try.func16, Try.ntmps16
    go_wp2_with fail
    refine bodyPost_ret (v := .agg #[.int .u8 0, .int .i64 0, .int .i64 0]) (by simp [results, Try.f16, go_sem]) rfl ⟨⟨0, 0, 0⟩, rfl, ⟨.inl rfl, fun _ => rfl, fun _ h => absurd h.1 (by rw [HL.out]; exact hp)⟩, ⟨nx, hnp, HF2.out⟩, HT2.out⟩
end Go.Proofs.Ytegfacepnklbjaa
