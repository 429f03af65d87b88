/- A field of bytes, the rest, and other kinds: what the call computes. Printed by cursor_fldb.py. -/
import Derived.Test.YtgapahmjcladlaaFldA
import Derived.IntWalk
namespace Go.Proofs.Ytgapahmjcladlaa
open Go.RowKit
set_option linter.unusedVariables false

theorem Rd.drewN {w : World} {R : Nat} {a : Option Addr} {n cap : Nat} {p : Int} {lv : Value} {many : Nat} (h : Rd w R a n cap p lv many) (q : Nat) : Rd (w.drewN q) R a n cap p lv many := ⟨h.blk, h.lst⟩
theorem Bv.is {L : Nat} {w : World} {v : Value} {bs : List UInt8} (h : Bv L w v bs) : ∃ ad al ac, v = .slice ad al ac := by
  obtain ⟨x, y, hx, _⟩ := h
  exact ⟨_, _, _, hx⟩
theorem noB_three {w : World} {F : Nat} {cs : Array Value} (h : w.heap[F]? = some (.cells cs 39 (0, 0))) : noB 0 w F := ⟨Nat.zero_le _, _, _, _, h, by decide⟩
theorem field_untold {R : Nat} {a : Option Addr} {n cap : Nat} {p : Nat} {lv : Value} {many : Nat} (bs : List UInt8) (w : World) (hR : Rd w R a n cap p lv many) (hl : bs.length = n) (hn : n ≤ 1099511627776) (hcap : n ≤ cap) (hnil : a = none → n = 0 ∧ cap = 0) (h : p ≤ n) (hb : Bytes w a bs) (hC : ∀ w' : World, Below w.heap.size w w' → Calls Try.prog 28 #[.pointer (some ⟨R, 0, none⟩)] w' fun e w'' => e = .returned (.tuple #[.int .i64 0, .bool false]) ∧ ∃ q, w'' = w'.drewN q) :
    Calls Try.prog 20 #[.pointer (some ⟨R, 0, none⟩), .int .i64 2] w fun e w' => e = .returned (.tuple #[.agg #[.int .i64 2, .int .i64 0, .slice none 0 0], .bool false]) ∧ Rd w' R a n cap (p : Int) lv many ∧ w.grownBy w' (some R) := by
  have HC := Lib.hid hC
  clear hC
  have hlt : R < w.heap.size := (Array.getElem?_eq_some_iff.1 hR.blk).1
  have HRS := Lib.hid hR
  have HBS := Lib.hid hb
  have HNL := Lib.hid hnil; have HLL := Lib.hid hl
  clear hb hR hnil hl
  go_enter Try.func20, Try.ntmps20
  go_wp2_with fail
  have hblk := alloc_at w (Obj.cells #[Value.int IntKind.i64 2, Value.int IntKind.i64 0, Value.slice none 0 0] 39)
  have hbl : Below w.heap.size w (w.alloc (Obj.cells #[Value.int IntKind.i64 2, Value.int IntKind.i64 0, Value.slice none 0 0] 39)) := (Below.refl _ _).alloc (Nat.le_refl _) _
  generalize w.alloc (Obj.cells #[Value.int IntKind.i64 2, Value.int IntKind.i64 0, Value.slice none 0 0] 39) = w1 at hblk hbl ⊢
  obtain ⟨F, hF⟩ : ∃ F, F = w.heap.size := ⟨_, rfl⟩
  have hF2 : F < w1.heap.size := by rw [hF]; exact (Array.getElem?_eq_some_iff.1 hblk).1
  rw [← hF] at hlt hblk ⊢
  have HR := Lib.hid (HRS.out.below hbl)
  have HB1 := Lib.hid (HBS.out.below hbl)
  have HBL := Lib.hid hbl; have HBK := Lib.hid hblk; have HF := Lib.hid hF
  clear hbl hblk hF HBS HRS
  have hne2 : ¬ R = F := by omega
  refine (HC.out _ HBL.out).mono ?_
  rintro e w2 ⟨rfl, q, rfl⟩
  have HR2 := Lib.hid (HR.out.drewN q)
  have HB2 : Hid (Bytes (w1.drewN q) a bs) := HB1
  have HBK2 : Hid ((w1.drewN q).heap[F]? = _) := HBK
  have HG2 : Hid (w.grownBy (w1.drewN q) (some R)) := Lib.hid (grown_below ⟨HBL.out.os, HBL.out.tape, HBL.out.output, HBL.out.size, HBL.out.block⟩)
  have hF2' : F < (w1.drewN q).heap.size := hF2
  clear HR HB1 HBK hF2 HC HBL
  generalize w1.drewN q = w2 at HR2 HB2 HBK2 HG2 hF2' ⊢
  have HBK := HBK2; clear HBK2
  have d0 : w2.cell? ⟨F, 0, none⟩ = some (.int .i64 2) := cell_blk HBK.out 0 rfl
  have d1 : w2.cell? ⟨F, 1, none⟩ = some (.int .i64 0) := cell_blk HBK.out 1 rfl
  have d2 : w2.cell? ⟨F, 2, none⟩ = some (.slice none 0 0) := cell_blk HBK.out 2 rfl
  have z1 := frozen_blk HBK.out 1; have z0 := frozen_blk HBK.out 0; have z3 := frozen_blk HBK.out 2
  go_wp2_with fail
  refine bodyPost_ret (v := .tuple #[.agg #[.int .i64 2, .int .i64 0, .slice none 0 0], .bool false]) (by simp [results, Try.f20, go_sem, d0, d1, d2]) rfl ⟨rfl, ?_, ?_⟩
  · repeat (first | exact HR2.out | refine Rd.set_new ?_ hne2 | refine Rd.drew ?_)
  · have hFs : w.heap.size ≤ F := by rw [HF.out]; omega
    repeat (first | exact HG2.out | refine grown_set_new ?_ hFs | refine grown_drewR ?_)
theorem field_noroom {R : Nat} {a : Option Addr} {n cap : Nat} {p : Nat} {lv : Value} {many : Nat} (bs : List UInt8) (w : World) (hR : Rd w R a n cap p lv many) (hl : bs.length = n) (hn : n ≤ 1099511627776) (hcap : n ≤ cap) (hnil : a = none → n = 0 ∧ cap = 0) (h : p ≤ n) (hb : Bytes w a bs) (k : Nat) (hC : ∀ w' : World, Below w.heap.size w w' → Calls Try.prog 28 #[.pointer (some ⟨R, 0, none⟩)] w' fun e w'' => e = .returned (.tuple #[.int .i64 k, .bool true]) ∧ ∃ q, w'' = w'.drewN q) (hk : ¬ p + k ≤ n) :
    Calls Try.prog 20 #[.pointer (some ⟨R, 0, none⟩), .int .i64 2] w fun e w' => e = .returned (.tuple #[.agg #[.int .i64 2, .int .i64 0, .slice none 0 0], .bool false]) ∧ Rd w' R a n cap (p : Int) lv many ∧ w.grownBy w' (some R) := by
  have HC := Lib.hid hC
  have HK : Hid (¬ fits n p k) := by unfold Hid; unfold fits; omega
  clear hC hk
  have hlt : R < w.heap.size := (Array.getElem?_eq_some_iff.1 hR.blk).1
  have HRS := Lib.hid hR
  have HBS := Lib.hid hb
  have HNL := Lib.hid hnil; have HLL := Lib.hid hl
  clear hb hR hnil hl
  go_enter Try.func20, Try.ntmps20
  go_wp2_with fail
  have hblk := alloc_at w (Obj.cells #[Value.int IntKind.i64 2, Value.int IntKind.i64 0, Value.slice none 0 0] 39)
  have hbl : Below w.heap.size w (w.alloc (Obj.cells #[Value.int IntKind.i64 2, Value.int IntKind.i64 0, Value.slice none 0 0] 39)) := (Below.refl _ _).alloc (Nat.le_refl _) _
  generalize w.alloc (Obj.cells #[Value.int IntKind.i64 2, Value.int IntKind.i64 0, Value.slice none 0 0] 39) = w1 at hblk hbl ⊢
  obtain ⟨F, hF⟩ : ∃ F, F = w.heap.size := ⟨_, rfl⟩
  have hF2 : F < w1.heap.size := by rw [hF]; exact (Array.getElem?_eq_some_iff.1 hblk).1
  rw [← hF] at hlt hblk ⊢
  have HR := Lib.hid (HRS.out.below hbl)
  have HB1 := Lib.hid (HBS.out.below hbl)
  have HBL := Lib.hid hbl; have HBK := Lib.hid hblk; have HF := Lib.hid hF
  clear hbl hblk hF HBS HRS
  have hne2 : ¬ R = F := by omega
  refine (HC.out _ HBL.out).mono ?_
  rintro e w2 ⟨rfl, q, rfl⟩
  have HR2 := Lib.hid (HR.out.drewN q)
  have HB2 : Hid (Bytes (w1.drewN q) a bs) := HB1
  have HBK2 : Hid ((w1.drewN q).heap[F]? = _) := HBK
  have HG2 : Hid (w.grownBy (w1.drewN q) (some R)) := Lib.hid (grown_below ⟨HBL.out.os, HBL.out.tape, HBL.out.output, HBL.out.size, HBL.out.block⟩)
  have hF2' : F < (w1.drewN q).heap.size := hF2
  clear HR HB1 HBK hF2 HC HBL
  generalize w1.drewN q = w2 at HR2 HB2 HBK2 HG2 hF2' ⊢
  go_wp2_with fail
  refine (take_no k w2 HR2.out hn HK.out).mono ?_
  rintro e w3 ⟨rfl, q, rfl⟩
  have HR3 := Lib.hid (HR2.out.drewN q)
  have HBK3 : Hid ((w2.drewN q).heap[F]? = _) := HBK2
  have HG3 : Hid (w.grownBy (w2.drewN q) (some R)) := Lib.hid ⟨HG2.out.os, HG2.out.tape, HG2.out.output, HG2.out.size, HG2.out.block⟩
  clear HR2 HB2 HBK2 HG2 hF2'
  generalize w2.drewN q = w3 at HR3 HBK3 HG3 ⊢
  have HBK := HBK3; clear HBK3
  have d0 : w3.cell? ⟨F, 0, none⟩ = some (.int .i64 2) := cell_blk HBK.out 0 rfl
  have d1 : w3.cell? ⟨F, 1, none⟩ = some (.int .i64 0) := cell_blk HBK.out 1 rfl
  have d2 : w3.cell? ⟨F, 2, none⟩ = some (.slice none 0 0) := cell_blk HBK.out 2 rfl
  have z1 := frozen_blk HBK.out 1; have z0 := frozen_blk HBK.out 0; have z3 := frozen_blk HBK.out 2
  go_wp2_with fail
  refine bodyPost_ret (v := .tuple #[.agg #[.int .i64 2, .int .i64 0, .slice none 0 0], .bool false]) (by simp [results, Try.f20, go_sem, d0, d1, d2]) rfl ⟨rfl, ?_, ?_⟩
  · repeat (first | exact HR3.out | refine Rd.set_new ?_ hne2 | refine Rd.drew ?_)
  · have hFs : w.heap.size ≤ F := by rw [HF.out]; omega
    repeat (first | exact HG3.out | refine grown_set_new ?_ hFs | refine grown_drewR ?_)
theorem field_bytes {R : Nat} {a : Option Addr} {n cap : Nat} {p : Nat} {lv : Value} {many : Nat} (bs : List UInt8) (w : World) (hR : Rd w R a n cap p lv many) (hl : bs.length = n) (hn : n ≤ 1099511627776) (hcap : n ≤ cap) (hnil : a = none → n = 0 ∧ cap = 0) (h : p ≤ n) (hb : Bytes w a bs) (k : Nat) (hC : ∀ w' : World, Below w.heap.size w w' → Calls Try.prog 28 #[.pointer (some ⟨R, 0, none⟩)] w' fun e w'' => e = .returned (.tuple #[.int .i64 k, .bool true]) ∧ ∃ q, w'' = w'.drewN q) (hk : p + k ≤ n) :
    Calls Try.prog 20 #[.pointer (some ⟨R, 0, none⟩), .int .i64 2] w fun e w' => ∃ v, e = .returned (.tuple #[.agg #[.int .i64 2, .int .i64 0, v], .bool true]) ∧ Bv 0 w' v ((bs.drop p).take k) ∧ Rd w' R a n cap ((p + k : Nat) : Int) lv many ∧ w.grownBy w' (some R) := by
  have HC := Lib.hid hC
  have HK := Lib.hid hk
  clear hC hk
  have hlt : R < w.heap.size := (Array.getElem?_eq_some_iff.1 hR.blk).1
  have HRS := Lib.hid hR
  have HBS := Lib.hid hb
  have HNL := Lib.hid hnil; have HLL := Lib.hid hl
  clear hb hR hnil hl
  go_enter Try.func20, Try.ntmps20
  go_wp2_with fail
  have hblk := alloc_at w (Obj.cells #[Value.int IntKind.i64 2, Value.int IntKind.i64 0, Value.slice none 0 0] 39)
  have hbl : Below w.heap.size w (w.alloc (Obj.cells #[Value.int IntKind.i64 2, Value.int IntKind.i64 0, Value.slice none 0 0] 39)) := (Below.refl _ _).alloc (Nat.le_refl _) _
  generalize w.alloc (Obj.cells #[Value.int IntKind.i64 2, Value.int IntKind.i64 0, Value.slice none 0 0] 39) = w1 at hblk hbl ⊢
  obtain ⟨F, hF⟩ : ∃ F, F = w.heap.size := ⟨_, rfl⟩
  have hF2 : F < w1.heap.size := by rw [hF]; exact (Array.getElem?_eq_some_iff.1 hblk).1
  rw [← hF] at hlt hblk ⊢
  have HR := Lib.hid (HRS.out.below hbl)
  have HB1 := Lib.hid (HBS.out.below hbl)
  have HBL := Lib.hid hbl; have HBK := Lib.hid hblk; have HF := Lib.hid hF
  clear hbl hblk hF HBS HRS
  have hne2 : ¬ R = F := by omega
  refine (HC.out _ HBL.out).mono ?_
  rintro e w2 ⟨rfl, q, rfl⟩
  have HR2 := Lib.hid (HR.out.drewN q)
  have HB2 : Hid (Bytes (w1.drewN q) a bs) := HB1
  have HBK2 : Hid ((w1.drewN q).heap[F]? = _) := HBK
  have HG2 : Hid (w.grownBy (w1.drewN q) (some R)) := Lib.hid (grown_below ⟨HBL.out.os, HBL.out.tape, HBL.out.output, HBL.out.size, HBL.out.block⟩)
  have hF2' : F < (w1.drewN q).heap.size := hF2
  clear HR HB1 HBK hF2 HC HBL
  generalize w1.drewN q = w2 at HR2 HB2 HBK2 HG2 hF2' ⊢
  go_wp2_with fail
  refine (take_yes k bs w2 HR2.out HLL.out hn hcap HNL.out HK.out HB2.out).mono ?_
  rintro e w3 ⟨v, rfl, hM, hR3, hg3⟩
  have HV3 := Lib.hid (OwnB.bv (L := 0) hM.2)
  obtain ⟨ad, al, ac, hv⟩ : ∃ ad al ac, v = .slice ad al ac := by obtain ⟨x, y, hx, _⟩ := HV3.out; exact ⟨_, _, _, hx⟩
  subst hv
  have HK3 : Hid (noB 0 w3 F) := Lib.hid (noB_three ((hg3.block F hF2' (fun e => hne2 (by injection e with e; exact e.symm))).trans HBK2.out))
  have HR3 := Lib.hid hR3
  have HBK3 : Hid (w3.heap[F]? = _) := Lib.hid ((hg3.block F hF2' (fun e => hne2 (by injection e with e; exact e.symm))).trans HBK2.out)
  have HG3 := Lib.hid (grown_trans HG2.out hg3)
  clear HR2 HB2 HBK2 HG2 hF2' hM hR3 hg3
  have HBK := HBK3; clear HBK3
  have d0 : w3.cell? ⟨F, 0, none⟩ = some (.int .i64 2) := cell_blk HBK.out 0 rfl
  have d1 : w3.cell? ⟨F, 1, none⟩ = some (.int .i64 0) := cell_blk HBK.out 1 rfl
  have d2 : w3.cell? ⟨F, 2, none⟩ = some (.slice none 0 0) := cell_blk HBK.out 2 rfl
  have z1 := frozen_blk HBK.out 1; have z0 := frozen_blk HBK.out 0; have z3 := frozen_blk HBK.out 2
  go_wp2_with fail
  refine bodyPost_ret (v := .tuple #[.agg #[.int .i64 2, .int .i64 0, .slice ad al ac], .bool true]) (by simp [results, Try.f20, go_sem, d0, d1, d2]) rfl ⟨_, rfl, ?_, ?_, ?_⟩
  · refine Bv.keep HV3.out (R := F) ?_ HK3.out
    repeat (first | exact World.grownBy.refl _ _ | refine grown_set_R ?_ | refine grown_drewR ?_)
  · repeat (first | exact HR3.out | refine Rd.set_new ?_ hne2 | refine Rd.drew ?_)
  · have hFs : w.heap.size ≤ F := by rw [HF.out]; omega
    repeat (first | exact HG3.out | refine grown_set_new ?_ hFs | refine grown_drewR ?_)
theorem field_else {R : Nat} {a : Option Addr} {n cap : Nat} {p : Nat} {lv : Value} {many : Nat} (bs : List UInt8) (w : World) (hR : Rd w R a n cap p lv many) (hl : bs.length = n) (hn : n ≤ 1099511627776) (hcap : n ≤ cap) (hnil : a = none → n = 0 ∧ cap = 0) (h : p ≤ n) (hb : Bytes w a bs) (kind : Int) (k0 : ¬ kind = 0) (k1 : ¬ kind = 1) (k2 : ¬ kind = 2) (k3 : ¬ kind = 3) :
    Calls Try.prog 20 #[.pointer (some ⟨R, 0, none⟩), .int .i64 kind] w fun e w' => e = .returned (.tuple #[.agg #[.int .i64 kind, .int .i64 0, .slice none 0 0], .bool false]) ∧ Rd w' R a n cap (p : Int) lv many ∧ w.grownBy w' (some R) := by
  have hlt : R < w.heap.size := (Array.getElem?_eq_some_iff.1 hR.blk).1
  have HRS := Lib.hid hR
  have HBS := Lib.hid hb
  have HNL := Lib.hid hnil; have HLL := Lib.hid hl
  clear hb hR hnil hl
  go_enter Try.func20, Try.ntmps20
  go_wp2_with fail
  have hblk := alloc_at w (Obj.cells #[Value.int IntKind.i64 kind, Value.int IntKind.i64 0, Value.slice none 0 0] 39)
  have hbl : Below w.heap.size w (w.alloc (Obj.cells #[Value.int IntKind.i64 kind, Value.int IntKind.i64 0, Value.slice none 0 0] 39)) := (Below.refl _ _).alloc (Nat.le_refl _) _
  generalize w.alloc (Obj.cells #[Value.int IntKind.i64 kind, Value.int IntKind.i64 0, Value.slice none 0 0] 39) = w1 at hblk hbl ⊢
  obtain ⟨F, hF⟩ : ∃ F, F = w.heap.size := ⟨_, rfl⟩
  have hF2 : F < w1.heap.size := by rw [hF]; exact (Array.getElem?_eq_some_iff.1 hblk).1
  rw [← hF] at hlt hblk ⊢
  have HR := Lib.hid (HRS.out.below hbl)
  have HB1 := Lib.hid (HBS.out.below hbl)
  have HBL := Lib.hid hbl; have HBK := Lib.hid hblk; have HF := Lib.hid hF
  clear hbl hblk hF HBS HRS
  have hne2 : ¬ R = F := by omega
  have hne : ¬ F = R := by omega
  have HG := Lib.hid (grown_below (R := R) HBL.out)
  have u0 : decide (kind = 0) = false := decide_eq_false k0
  have d0 : w1.cell? ⟨F, 0, none⟩ = some (.int .i64 kind) := cell_blk HBK.out 0 rfl
  have d1 : w1.cell? ⟨F, 1, none⟩ = some (.int .i64 0) := cell_blk HBK.out 1 rfl
  have d2 : w1.cell? ⟨F, 2, none⟩ = some (.slice none 0 0) := cell_blk HBK.out 2 rfl
  have z1 := frozen_blk HBK.out 1; have z0 := frozen_blk HBK.out 0; have z3 := frozen_blk HBK.out 2
  go_wp2_with fail
  refine bodyPost_ret (v := .tuple #[.agg #[.int .i64 kind, .int .i64 0, .slice none 0 0], .bool false]) (by simp [results, Try.f20, go_sem, d0, d1, d2]) rfl ⟨rfl, ?_, ?_⟩
  · repeat (first | exact HR.out | refine Rd.set_new ?_ hne2 | refine Rd.drew ?_)
  · have hFs : w.heap.size ≤ F := by rw [HF.out]; omega
    repeat (first | exact HG.out | refine grown_set_new ?_ hFs | refine grown_drewR ?_)
set_option maxHeartbeats 1000000 in
theorem field_rest {R : Nat} {a : Option Addr} {n cap : Nat} {p : Nat} {lv : Value} {many : Nat} (bs : List UInt8) (w : World) (hR : Rd w R a n cap p lv many) (hl : bs.length = n) (hn : n ≤ 1099511627776) (hcap : n ≤ cap) (hnil : a = none → n = 0 ∧ cap = 0) (h : p ≤ n) (hb : Bytes w a bs) :
    Calls Try.prog 20 #[.pointer (some ⟨R, 0, none⟩), .int .i64 3] w fun e w' => ∃ v, e = .returned (.tuple #[.agg #[.int .i64 3, .int .i64 0, v], .bool true]) ∧ Bv 0 w' v ((bs.drop p).take (n - p)) ∧ Rd w' R a n cap ((p + (n - p) : Nat) : Int) lv many ∧ w.grownBy w' (some R) := by
  have hlt : R < w.heap.size := (Array.getElem?_eq_some_iff.1 hR.blk).1
  have HRS := Lib.hid hR
  have HBS := Lib.hid hb
  have HNL := Lib.hid hnil; have HLL := Lib.hid hl
  clear hb hR hnil hl
  go_enter Try.func20, Try.ntmps20
  go_wp2_with fail
  have hblk := alloc_at w (Obj.cells #[Value.int IntKind.i64 3, Value.int IntKind.i64 0, Value.slice none 0 0] 39)
  have hbl : Below w.heap.size w (w.alloc (Obj.cells #[Value.int IntKind.i64 3, Value.int IntKind.i64 0, Value.slice none 0 0] 39)) := (Below.refl _ _).alloc (Nat.le_refl _) _
  generalize w.alloc (Obj.cells #[Value.int IntKind.i64 3, Value.int IntKind.i64 0, Value.slice none 0 0] 39) = w1 at hblk hbl ⊢
  obtain ⟨F, hF⟩ : ∃ F, F = w.heap.size := ⟨_, rfl⟩
  have hF2 : F < w1.heap.size := by rw [hF]; exact (Array.getElem?_eq_some_iff.1 hblk).1
  rw [← hF] at hlt hblk ⊢
  have HR := Lib.hid (HRS.out.below hbl)
  have HB1 := Lib.hid (HBS.out.below hbl)
  have HBL := Lib.hid hbl; have HBK := Lib.hid hblk; have HF := Lib.hid hF
  clear hbl hblk hF HBS HRS
  have hne : ¬ F = R := by omega
  have hne2 : ¬ R = F := by omega
  have c0 := HR.out.c0; have c1 := HR.out.c1; have c2 := HR.out.c2; have c3 := HR.out.c3
  have d0 : w1.cell? ⟨F, 0, none⟩ = some (.int .i64 3) := cell_blk HBK.out 0 rfl
  have d1 : w1.cell? ⟨F, 1, none⟩ = some (.int .i64 0) := cell_blk HBK.out 1 rfl
  have d2 : w1.cell? ⟨F, 2, none⟩ = some (.slice none 0 0) := cell_blk HBK.out 2 rfl
  have z1 := frozen_blk HBK.out 1; have z0 := frozen_blk HBK.out 0; have z3 := frozen_blk HBK.out 2
  have e1 : IntKind.i64.wrap ((n : Int) - (p : Int)) = ((n - p : Nat) : Int) := by rw [IntWalk.i64_in _ ⟨by omega, by omega⟩]; omega
  have hpk : p + (n - p) ≤ n := by omega
  have HG2 : Hid (w.grownBy w1.drew (some R)) := Lib.hid (grown_drewR (grown_below (R := R) HBL.out))
  have HCT : Hid (Calls Try.prog 29 #[.pointer (some ⟨R, 0, none⟩), .int .i64 (IntKind.i64.wrap ((n : Int) - (p : Int)))] w1.drew fun e w' => ∃ ad al ac, e = .returned (.tuple #[.slice ad al ac, .bool true]) ∧ w'.cell? ⟨F, 0, none⟩ = some (.int .i64 3) ∧ w'.cell? ⟨F, 1, none⟩ = some (.int .i64 0) ∧ w'.cell? ⟨F, 2, none⟩ = some (.slice none 0 0) ∧ w'.frozen? ⟨F, 0, none⟩ = false ∧ w'.frozen? ⟨F, 1, none⟩ = false ∧ w'.frozen? ⟨F, 2, none⟩ = false ∧ Hid (Bv 0 w' (.slice ad al ac) ((bs.drop p).take (n - p)) ∧ noB 0 w' F ∧ Rd w' R a n cap ((p + (n - p) : Nat) : Int) lv many ∧ w.grownBy w' (some R))) := by
    unfold Hid
    rw [e1]
    refine (take_yes (n - p) bs w1.drew HR.out.drew HLL.out hn hcap HNL.out hpk HB1.out).mono ?_
    rintro e w3 ⟨v, rfl, hM, hR3, hg3⟩
    have hv3 := OwnB.bv (L := 0) hM.2
    obtain ⟨ad, al, ac, rfl⟩ := Bv.is hv3
    have hB3 : w3.heap[F]? = _ := (hg3.block F hF2 (fun e => hne2 (by injection e with e; exact e.symm))).trans HBK.out
    exact ⟨ad, al, ac, rfl, cell_blk hB3 0 rfl, cell_blk hB3 1 rfl, cell_blk hB3 2 rfl, frozen_blk hB3 0, frozen_blk hB3 1, frozen_blk hB3 2, Lib.hid ⟨hv3, noB_three hB3, hR3, grown_trans HG2.out hg3⟩⟩
  clear d0 d1 d2 z0 z1 z3 hF2 hpk e1 HG2
  go_region_with (first | (go_at_call 29; refine HCT.out.mono ?_; rintro e w3 ⟨ad, al, ac, rfl, d0, d1, d2, z0, z1, z3, HX⟩))
  all_goals
    clear HCT c0 c1 c2 c3 HR HB1 HBL HBK
    go_wp2_with fail
    refine bodyPost_ret (v := .tuple #[.agg #[.int .i64 3, .int .i64 0, .slice ad al ac], .bool true]) (by simp [results, Try.f20, go_sem, d0, d1, d2]) rfl ⟨_, rfl, ?_, ?_, ?_⟩
    · refine Bv.keep HX.out.1 (R := F) ?_ HX.out.2.1
      repeat (first | exact World.grownBy.refl _ _ | refine grown_set_R ?_ | refine grown_drewR ?_)
    · have hR3 := HX.out.2.2.1
      repeat (first | exact hR3 | refine Rd.set_new ?_ hne2 | refine Rd.drew ?_)
    · have hFs : w.heap.size ≤ F := by rw [HF.out]; omega
      have hG3 := HX.out.2.2.2
      repeat (first | exact hG3 | refine grown_set_new ?_ hFs | refine grown_drewR ?_)
end Go.Proofs.Ytgapahmjcladlaa
