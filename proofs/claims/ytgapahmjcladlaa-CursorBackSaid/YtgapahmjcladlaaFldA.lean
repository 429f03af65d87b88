import Derived.Test.YtgapahmjcladlaaLen
import Derived.StillTailTactics
namespace Go.Proofs.Ytgapahmjcladlaa
open Go.RowKit
set_option linter.unusedVariables false

theorem alloc_at (w : World) (o : Obj) : (w.alloc o).heap[w.heap.size]? = some o := by
  show (w.heap.push o)[w.heap.size]? = some o
  simp
theorem Rd.set_new {w : World} {R F i : Nat} {a : Option Addr} {n cap : Nat} {p : Int} {lv u : Value} {many : Nat} (h : Rd w R a n cap p lv many) (hne : R ≠ F) : Rd (w.setCell ⟨F, i, none⟩ u) R a n cap p lv many :=
  ⟨by rw [heap_setCell_other w ⟨F, i, none⟩ R _ (fun e => hne (by rw [e]))]; exact h.blk, h.lst⟩
theorem grown_set_new {w w' : World} {R F i : Nat} {u : Value} (h : w.grownBy w' (some R)) (hF : w.heap.size ≤ F) : w.grownBy (w'.setCell ⟨F, i, none⟩ u) (some R) :=
  ⟨h.os, h.tape, h.output, by rw [World.size_setCell]; exact h.size, fun k hk hr => by
    rw [heap_setCell_other w' ⟨F, i, none⟩ k _ (fun e => by have : k = F := e; omega)]
    exact h.block k hk hr⟩
theorem grown_set_R {w w' : World} {R i : Nat} {u : Value} (h : w.grownBy w' (some R)) : w.grownBy (w'.setCell ⟨R, i, none⟩ u) (some R) :=
  ⟨h.os, h.tape, h.output, by rw [World.size_setCell]; exact h.size, fun k hk hr => by
    rw [heap_setCell_other w' ⟨R, i, none⟩ k _ (fun e => hr (by rw [show k = R from e]))]
    exact h.block k hk hr⟩
theorem Rd.drew {w : World} {R : Nat} {a : Option Addr} {n cap : Nat} {p : Int} {lv : Value} {many : Nat} (h : Rd w R a n cap p lv many) : Rd w.drew R a n cap p lv many := ⟨h.blk, h.lst⟩
theorem grown_drewR {w w' : World} {R : Nat} (h : w.grownBy w' (some R)) : w.grownBy w'.drew (some R) := ⟨h.os, h.tape, h.output, h.size, h.block⟩

theorem field_two {R : Nat} {a : Option Addr} {n cap : Nat} {p : Nat} {lv : Value} {many : Nat} (bs : List UInt8) (w : World) (hR : Rd w R a n cap p lv many) (hn : n ≤ 1099511627776) (h : p ≤ n) (hb : Bytes w a bs) (V : Nat) (D : Bool)
    (hC : ∀ w' : World, Bytes w' a bs → Calls Try.prog 25 #[.slice a n cap, .int .i64 p, .int .i64 2] w' fun e w'' => e = .returned (.tuple #[.int .i64 V, .bool D]) ∧ w'' = w') :
    Calls Try.prog 20 #[.pointer (some ⟨R, 0, none⟩), .int .i64 0] w fun e w' => e = .returned (.tuple #[.agg #[.int .i64 0, .int .i64 V, .slice none 0 0], .bool D]) ∧ Rd w' R a n cap ((p : Int) + 2) lv many ∧ w.grownBy w' (some R) := by
  have hlt : R < w.heap.size := (Array.getElem?_eq_some_iff.1 hR.blk).1
  have HRS := Lib.hid hR
  have HBS := Lib.hid hb
  clear hb hR
  go_enter Try.func20, Try.ntmps20
  go_wp2_with fail
  have hblk := alloc_at w (Obj.cells #[Value.int IntKind.i64 0, Value.int IntKind.i64 0, Value.slice none 0 0] 39)
  have hbl : Below w.heap.size w (w.alloc (Obj.cells #[Value.int IntKind.i64 0, Value.int IntKind.i64 0, Value.slice none 0 0] 39)) := (Below.refl _ _).alloc (Nat.le_refl _) _
  generalize w.alloc (Obj.cells #[Value.int IntKind.i64 0, Value.int IntKind.i64 0, Value.slice none 0 0] 39) = w1 at hblk hbl ⊢
  obtain ⟨F, hF⟩ : ∃ F, F = w.heap.size := ⟨_, rfl⟩
  rw [← hF] at hlt hblk ⊢
  have HR := Lib.hid (HRS.out.below hbl)
  have c0 := HR.out.c0; have c1 := HR.out.c1; have c2 := HR.out.c2; have c3 := HR.out.c3
  have HB1 : Bytes w1.drew a bs := HBS.out.below ⟨hbl.os, hbl.tape, hbl.output, hbl.size, hbl.block⟩
  have HC : Hid (Calls Try.prog 25 #[.slice a n cap, .int .i64 p, .int .i64 2] w1.drew fun e w' => e = .returned (.tuple #[.int .i64 V, .bool D]) ∧ w' = w1.drew) := hC w1.drew HB1
  have HBL := Lib.hid hbl; have HBK := Lib.hid hblk; have HF := Lib.hid hF
  have d0 : w1.cell? ⟨F, 0, none⟩ = some (.int .i64 0) := cell_blk hblk 0 rfl
  have d1 : w1.cell? ⟨F, 1, none⟩ = some (.int .i64 0) := cell_blk hblk 1 rfl
  have d2 : w1.cell? ⟨F, 2, none⟩ = some (.slice none 0 0) := cell_blk hblk 2 rfl
  have hne : ¬ F = R := by omega
  have hne2 : ¬ R = F := by omega
  have z1 := frozen_blk hblk 1; have z0 := frozen_blk hblk 0; have z3 := frozen_blk hblk 2; have z2 := frozen_blk HR.out.blk 1
  clear hbl hblk hF HBS HRS hC HB1
  go_region_with (first | (go_at_call 25; refine HC.out.mono ?_; rintro e w2 ⟨rfl, rfl⟩))
  all_goals
    go_wp2_with fail
    refine bodyPost_ret (v := .tuple #[.agg #[.int .i64 0, .int .i64 V, .slice none 0 0], .bool D]) (by simp [results, Try.f20, go_sem, d0, d1, d2]) rfl ⟨rfl, ?_, ?_⟩
    · exact (((((HR.out.set_new hne2).move _).1.set_new hne2).set_new hne2).set_new hne2).drew
    · have hFs : w.heap.size ≤ F := by rw [HF.out]; omega
      exact grown_drewR (grown_set_new (grown_set_new (grown_set_new (grown_set_R (grown_set_new (grown_below HBL.out) hFs)) hFs) hFs) hFs)

theorem field_four {R : Nat} {a : Option Addr} {n cap : Nat} {p : Nat} {lv : Value} {many : Nat} (bs : List UInt8) (w : World) (hR : Rd w R a n cap p lv many) (hn : n ≤ 1099511627776) (h : p ≤ n) (hb : Bytes w a bs) (V : Nat) (D : Bool)
    (hC : ∀ w' : World, Bytes w' a bs → Calls Try.prog 25 #[.slice a n cap, .int .i64 p, .int .i64 4] w' fun e w'' => e = .returned (.tuple #[.int .i64 V, .bool D]) ∧ w'' = w') :
    Calls Try.prog 20 #[.pointer (some ⟨R, 0, none⟩), .int .i64 1] w fun e w' => e = .returned (.tuple #[.agg #[.int .i64 1, .int .i64 V, .slice none 0 0], .bool D]) ∧ Rd w' R a n cap ((p : Int) + 4) lv many ∧ w.grownBy w' (some R) := by
  have hlt : R < w.heap.size := (Array.getElem?_eq_some_iff.1 hR.blk).1
  have HRS := Lib.hid hR
  have HBS := Lib.hid hb
  clear hb hR
  go_enter Try.func20, Try.ntmps20
  go_wp2_with fail
  have hblk := alloc_at w (Obj.cells #[Value.int IntKind.i64 1, Value.int IntKind.i64 0, Value.slice none 0 0] 39)
  have hbl : Below w.heap.size w (w.alloc (Obj.cells #[Value.int IntKind.i64 1, Value.int IntKind.i64 0, Value.slice none 0 0] 39)) := (Below.refl _ _).alloc (Nat.le_refl _) _
  generalize w.alloc (Obj.cells #[Value.int IntKind.i64 1, Value.int IntKind.i64 0, Value.slice none 0 0] 39) = w1 at hblk hbl ⊢
  obtain ⟨F, hF⟩ : ∃ F, F = w.heap.size := ⟨_, rfl⟩
  rw [← hF] at hlt hblk ⊢
  have HR := Lib.hid (HRS.out.below hbl)
  have c0 := HR.out.c0; have c1 := HR.out.c1; have c2 := HR.out.c2; have c3 := HR.out.c3
  have HB1 : Bytes w1.drew a bs := HBS.out.below ⟨hbl.os, hbl.tape, hbl.output, hbl.size, hbl.block⟩
  have HC : Hid (Calls Try.prog 25 #[.slice a n cap, .int .i64 p, .int .i64 4] w1.drew fun e w' => e = .returned (.tuple #[.int .i64 V, .bool D]) ∧ w' = w1.drew) := hC w1.drew HB1
  have HBL := Lib.hid hbl; have HBK := Lib.hid hblk; have HF := Lib.hid hF
  have d0 : w1.cell? ⟨F, 0, none⟩ = some (.int .i64 1) := cell_blk hblk 0 rfl
  have d1 : w1.cell? ⟨F, 1, none⟩ = some (.int .i64 0) := cell_blk hblk 1 rfl
  have d2 : w1.cell? ⟨F, 2, none⟩ = some (.slice none 0 0) := cell_blk hblk 2 rfl
  have hne : ¬ F = R := by omega
  have hne2 : ¬ R = F := by omega
  have z1 := frozen_blk hblk 1; have z0 := frozen_blk hblk 0; have z3 := frozen_blk hblk 2; have z2 := frozen_blk HR.out.blk 1
  clear hbl hblk hF HBS HRS hC HB1
  go_region_with (first | (go_at_call 25; refine HC.out.mono ?_; rintro e w2 ⟨rfl, rfl⟩))
  all_goals
    go_wp2_with fail
    refine bodyPost_ret (v := .tuple #[.agg #[.int .i64 1, .int .i64 V, .slice none 0 0], .bool D]) (by simp [results, Try.f20, go_sem, d0, d1, d2]) rfl ⟨rfl, ?_, ?_⟩
    · exact (((((HR.out.set_new hne2).move _).1.set_new hne2).set_new hne2).set_new hne2).drew
    · have hFs : w.heap.size ≤ F := by rw [HF.out]; omega
      exact grown_drewR (grown_set_new (grown_set_new (grown_set_new (grown_set_R (grown_set_new (grown_below HBL.out) hFs)) hFs) hFs) hFs)
end Go.Proofs.Ytgapahmjcladlaa
