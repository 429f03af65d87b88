/- The library's cutter, called with whatever loop's body: what its rounds are handed. -/
import Derived.Test.YthedhominhgeaaaDoorSpl
import Derived.RangeFuncNested
import Derived.RangeFuncBound
import Derived.RangeFuncCalls
import Derived.RangeFuncLeaves
import Derived.Shelf.Abstract
import Derived.Shelf.RegionOpen
import Derived.OwnWalkIn
import Derived.TacticsInMore
import Derived.LoopNIn
import Derived.LoopIn
namespace Go.Proofs.YthedhominhgeaaaDoor
open Go.RowKit Go.Shelf
set_option linter.unusedVariables false
attribute [local go_sem] nat_byt str_size str_get str_from str_to str_list lit_nil Oper.semAt_some

/-- What the cutter has in memory: the text that is left, the slash, nought. -/
structure Cutter (S P V : Nat) (t : List UInt8) (W : World) : Prop where
  s : W.cell? ⟨S, 0, none⟩ = some (.string (str t))
  f : W.frozen? ⟨S, 0, none⟩ = false
  p : W.cell? ⟨P, 0, none⟩ = some (.string ⟨#[47]⟩)
  v : W.cell? ⟨V, 0, none⟩ = some (.int .i64 0)
theorem Cutter.below {S P V : Nat} {t : List UInt8} {W W' : World} (h : Cutter S P V t W) (hb : Below W.heap.size W W') : Cutter S P V t W' := by
  have hlt : S < W.heap.size := block_lt_of_cell h.s
  exact ⟨by rw [hb.cell (block_lt_of_cell h.s)]; exact h.s, (World.frozen?_of_block (hb.block S hlt)).trans h.f, by rw [hb.cell (block_lt_of_cell h.p)]; exact h.p, by rw [hb.cell (block_lt_of_cell h.v)]; exact h.v⟩
theorem Cutter.store {S P V : Nat} {t : List UInt8} {W : World} (h : Cutter S P V t W) (u : List UInt8) (hP : P ≠ S) (hV : V ≠ S) : Cutter S P V u (W.setCell ⟨S, 0, none⟩ (.string (str u))) :=
  ⟨World.cell?_setCell_same' _ _ _ (by rw [h.s]; rfl), by rw [World.frozen?_setCell]; exact h.f,
   (World.cell?_of_block (Below.heap_setCell W ⟨S, 0, none⟩ _ P hP)).trans h.p, (World.cell?_of_block (Below.heap_setCell W ⟨S, 0, none⟩ _ V hV)).trans h.v⟩
def cutLen (S : Nat) (W : World) : Nat := match W.cell? ⟨S, 0, none⟩ with
  | some v => strLen v
  | none => 0
theorem Cutter.len {S P V : Nat} {t : List UInt8} {W : World} (h : Cutter S P V t W) : cutLen S W = t.length := by
  unfold cutLen; rw [h.s]; exact strLen_str t

set_option maxHeartbeats 2000000 in
theorem iter_any (n : Nat) (hn : 1 ≤ n) (l S P V : Nat) (hP : P ≠ S) (hV : V ≠ S) (rest : List UInt8) (hrl : rest.length ≤ 1099511627776) (J : List (List UInt8) → World → Prop) (Jx : List UInt8 → World → Prop)
    (hJ : ∀ pre W v, J pre W → J pre (W.setCell ⟨S, 0, none⟩ v))
    (hY : ∀ pre x t W, x.length ≤ 1099511627776 → J pre W → Cutter S P V t W → YieldAt Fence.wide (n - 1) Tryd.prog l #[.string (str x)] W fun e W' =>
      (e = .returned (.bool true) ∧ J (pre ++ [x]) W' ∧ Cutter S P V t W') ∨ (e = .returned (.bool false) ∧ Jx x W'))
    (W : World) (hC : Cutter S P V rest W) (h0 : J [] W) :
    CallsIn Fence.wide n Tryd.prog 56 #[.func (.yield l) #[] #[], .pointer (some ⟨P, 0, none⟩), .pointer (some ⟨S, 0, none⟩), .pointer (some ⟨V, 0, none⟩)] W fun e W' => (∃ v, e = .returned v) ∧
      (J (splitL rest) W' ∨ ∃ x, x ∈ splitL rest ∧ Jx x W') := by
  refine callsIn_of_wp Tryd.func56 rfl trivial ?_ rfl
  simp only [Tryd.ntmps56, List.size_toArray, List.length_cons, List.length_nil, Nat.reduceAdd, Nat.reduceSub, Array.replicate_succ, Array.replicate_zero, List.push_toArray, List.append_toArray, List.nil_append, List.cons_append]
  have p0 := hC.p
  gi_wp2
  clear p0
  gi_loopw [7] (fun s7 wr => ∃ (pre : List (List UInt8)) (t : List UInt8), t.length ≤ 1099511627776 ∧ splitL rest = pre ++ splitL t ∧ Cutter S P V t wr ∧ J pre wr) (fun _ wr => cutLen S wr)
  case atStart => exact ⟨[], rest, hrl, rfl, hC, h0⟩
  case round =>
    obtain ⟨pre, t, ht, hsp, hc, hj⟩ := hrel
    have c1 := hc.s; have c2 := hc.p; have c3 := hc.v
    have HI := Tryd.strings_Index_one (str t) 47 wr
    rw [str_data] at HI
    have hge := Lib.indexByte_ge t 47
    obtain ⟨r, hr⟩ : ∃ r, Lib.indexByte t 47 = r := ⟨_, rfl⟩
    rw [hr] at HI hge
    have HI2 : Hid (∀ m, CallsIn Fence.wide m Tryd.prog 58 #[.string (str t), .string ⟨#[47]⟩] wr fun e w' => e = .returned (.int .i64 r) ∧ w' = wr) := Lib.hid (fun m => callsIn_wide.2 HI)
    clear HI
    by_cases h1 : r = -1
    · subst h1
      have hs1 := index_none hr
      rw [hs1] at hsp
      obtain ⟨fn, tmps, assign, body, hy, hR⟩ := hY pre t t wr ht hj hc
      clear hr hge
      gi_wp2_with (refine ⟨trivial, ?_⟩; gi_at_call 58; refine (HI2.out _).mono ?_; rintro e w2 ⟨rfl, rfl⟩)
      refine hR.mono ?_
      rintro e W3 (⟨rfl, hJ3, hk3⟩ | ⟨rfl, hJx3⟩)
      · gi_wp2
        go_end0
        exact ⟨⟨_, rfl⟩, .inl (by rw [hsp]; exact hJ3)⟩
      · gi_wp2
        go_end0
        exact ⟨⟨_, rfl⟩, .inr ⟨t, by rw [hsp]; simp, hJx3⟩⟩
    · obtain ⟨i, rfl⟩ : ∃ i : Nat, r = i := ⟨r.toNat, by omega⟩
      obtain ⟨hi, hs1⟩ := index_some hr
      rw [hs1] at hsp
      have i1 : (i : Int) ≤ (t.length : Int) := by omega
      have i2 : (i : Int) + 1 ≤ (t.length : Int) := by omega
      obtain ⟨fn, tmps, assign, body, hy, hR⟩ := hY pre (t.take i) t wr (by rw [List.length_take]; omega) hj hc
      clear hr hge h1
      gi_wp2_with (refine ⟨trivial, ?_⟩; gi_at_call 58; refine (HI2.out _).mono ?_; rintro e w2 ⟨rfl, rfl⟩)
      refine hR.mono ?_
      rintro e W3 (⟨rfl, hJ3, hk3⟩ | ⟨rfl, hJx3⟩)
      · have d1 := hk3.s; have d2 := hk3.p; have d3 := hk3.f
        have hst := hk3.store (t.drop (i + 1)) hP hV
        have hJ4 := hJ _ _ (.string (str (t.drop (i + 1)))) hJ3
        clear hy hR
        gi_wp2
        go_roundw
        case rel => exact ⟨pre ++ [t.take i], t.drop (i + 1), by rw [List.length_drop]; omega, by rw [hsp]; simp, hst, hJ4⟩
        case measure => rw [hst.len, hc.len, List.length_drop]; omega
      · clear hy hR
        gi_wp2
        refine bodyPost_ret (results_none rfl _ _ _) rfl ?_
        exact ⟨⟨_, rfl⟩, .inr ⟨t.take i, by rw [hsp]; simp, hJx3⟩⟩
end Go.Proofs.YthedhominhgeaaaDoor
