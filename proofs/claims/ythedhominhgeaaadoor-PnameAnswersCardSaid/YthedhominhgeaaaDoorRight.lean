/- Is it a part's name: what the call computes. -/
import Derived.Test.YthedhominhgeaaaDoorRng
namespace Go.Proofs.YthedhominhgeaaaDoor
open Go.RowKit Go.Shelf
set_option linter.unusedVariables false
attribute [local go_sem] nat_byt str_size str_get str_from str_to str_list lit_nil Oper.semAt_some

def rightB : List UInt8 → Bool
  | c :: r => decide (c = 47) && decide (1 ≤ r.length ∧ r.length ≤ 254) && (splitL r).all segB
  | [] => false
theorem cut_yes (r : List UInt8) (w : World) : Calls Tryd.prog 32 #[.string (str (47 :: r)), .string ⟨#[47]⟩] w fun e w' => e = .returned (.tuple #[.string (str r), .bool true]) ∧ w' = w := by
  have := Tryd.strings_CutPrefix (str (47 :: r)) ⟨#[47]⟩ w
  rw [str_data] at this
  exact this
theorem cut_no (l : List UInt8) (h : l.head? ≠ some 47) (w : World) : Calls Tryd.prog 32 #[.string (str l), .string ⟨#[47]⟩] w fun e w' => e = .returned (.tuple #[.string (str l), .bool false]) ∧ w' = w := by
  have := Tryd.strings_CutPrefix (str l) ⟨#[47]⟩ w
  rw [str_data] at this
  have hp : Lib.hasPrefix l [47] = false := by
    unfold Lib.hasPrefix
    cases l with
    | nil => rfl
    | cons c r =>
      have hc : ¬ c = 47 := fun e => h (by rw [e]; rfl)
      simp [List.isPrefixOf, Ne.symm hc]
  have hd : (⟨#[47]⟩ : ByteArray).data.toList = [47] := rfl
  rw [hd] at this
  rw [show Lib.trimPrefix l [47] = l by unfold Lib.trimPrefix; rw [hp]; rfl, hp] at this
  exact this

theorem new_cell {w w' : World} {o : Obj} {v : Value} {e : Nat} (ho : o = .cells #[v] e) (hb : Below (w.heap.size + 1) (w.alloc o) w') : w'.cell? ⟨w.heap.size, 0, none⟩ = some v ∧ w'.frozen? ⟨w.heap.size, 0, none⟩ = false := by
  have h := World.alloc_heap_new w o
  have h2 := (hb.block w.heap.size (by omega)).trans h
  subst ho
  exact ⟨by simp [World.cell?, h2], by simp [World.frozen?, h2]⟩
set_option maxRecDepth 100000 in
set_option maxHeartbeats 2000000 in
theorem right_go (r : List UInt8) (w : World) (h1 : 1 ≤ r.length) (h2 : r.length ≤ 254) : CallsIn Fence.wide 4 Tryd.prog 9 #[.string (str (47 :: r))] w fun e w' => e = .returned (.bool ((splitL r).all segB)) ∧ Below w.heap.size w w' := by
  have HC := Lib.hid (fun m w => (callsIn_wide (n := m)).2 (cut_yes r w))
  have HS := Lib.hid (fun m w => (callsIn_wide (n := m)).2 (splitSeq_any r w))
  obtain ⟨res, hres⟩ : ∃ res, (splitL r).all segB = res := ⟨_, rfl⟩
  rw [hres]
  have HRES := Lib.hid hres
  clear hres
  obtain ⟨l, hL⟩ : ∃ l, l = 47 :: r := ⟨_, rfl⟩
  have i1 : ¬ (l.length : Int) < 2 := by rw [hL]; simp; omega
  have i2 : ¬ (255 : Int) < (l.length : Int) := by rw [hL]; simp; omega
  rw [← hL] at HC ⊢
  clear hL
  refine callsIn_of_wp_marks Tryd.func9 rfl trivial ?_ rfl
  simp only [Tryd.ntmps9, List.size_toArray, List.length_cons, List.length_nil, Nat.reduceAdd, Nat.reduceSub, Array.replicate_succ, Array.replicate_zero, List.push_toArray, List.append_toArray, List.nil_append, List.cons_append]
  gi_wp2_with (first
    | (refine ⟨trivial, ?_⟩; gi_at_call 32; refine (HC.out _ _).mono ?_; rintro e w2 ⟨rfl, rfl⟩)
    | (refine ⟨trivial, ?_⟩; gi_at_call 33; refine (HS.out _ _).mono ?_; rintro e w2 ⟨rfl, rfl⟩))
  obtain ⟨A, hA⟩ : ∃ x, x = w.alloc (.cells #[.bool false] 4) := ⟨_, rfl⟩
  have sA : A.heap.size = w.heap.size + 1 := by rw [hA, World.size_alloc]
  obtain ⟨B, hB⟩ : ∃ x, x = A.alloc (.cells #[.string (str r)] 9) := ⟨_, rfl⟩
  have sB : B.heap.size = w.heap.size + 2 := by rw [hB, World.size_alloc, sA]
  obtain ⟨C, hCw⟩ : ∃ x, x = B.alloc (.cells #[.string ⟨#[47]⟩] 9) := ⟨_, rfl⟩
  have sC : C.heap.size = w.heap.size + 3 := by rw [hCw, World.size_alloc, sB]
  obtain ⟨w4, hw4⟩ : ∃ x, x = C.alloc (.cells #[.int .i64 0] 3) := ⟨_, rfl⟩
  have hsz : w4.heap.size = w.heap.size + 4 := by rw [hw4, World.size_alloc, sC]
  have bA : Below w.heap.size w A := by rw [hA]; exact (Below.refl _ w).alloc (Nat.le_refl _) _
  have bB : Below A.heap.size A B := by rw [hB]; exact (Below.refl _ _).alloc (Nat.le_refl _) _
  have bC : Below B.heap.size B C := by rw [hCw]; exact (Below.refl _ _).alloc (Nat.le_refl _) _
  have bD : Below C.heap.size C w4 := by rw [hw4]; exact (Below.refl _ _).alloc (Nat.le_refl _) _
  have bBD : Below B.heap.size B w4 := below_step bC bD
  have bAD : Below A.heap.size A w4 := below_step bB bBD
  have hb : Below w.heap.size w w4 := below_step bA bAD
  have c0 := new_cell (w := w) (w' := w4) (o := .cells #[.bool false] 4) rfl (by rw [← hA, ← sA]; exact bAD)
  have c1 := new_cell (w := A) (w' := w4) (o := .cells #[.string (str r)] 9) rfl (by rw [← hB, show A.heap.size + 1 = B.heap.size by omega]; exact bBD)
  have c2 := new_cell (w := B) (w' := w4) (o := .cells #[.string ⟨#[47]⟩] 9) rfl (by rw [← hCw, show B.heap.size + 1 = C.heap.size by omega]; exact bD)
  have c3 := new_cell (w := C) (w' := w4) (o := .cells #[.int .i64 0] 3) rfl (by rw [← hw4]; exact Below.refl _ _)
  rw [sA] at c1; rw [sB] at c2; rw [sC] at c3
  have hR := c0.1
  have hRf := c0.2
  have hC : Cutter (w.heap.size + 1) (w.heap.size + 1 + 1) (w.heap.size + 1 + 2) r w4 := ⟨c1.1, c1.2, c2.1, c3.1⟩
  rw [← hA, ← hB, ← hCw, ← hw4]
  clear c0 c1 c2 c3 bA bB bC bD bBD bAD sA sB sC hA hB hCw hw4
  obtain ⟨R, hRe⟩ : ∃ R, R = w.heap.size := ⟨_, rfl⟩
  have hRe2 := Lib.hid hRe
  rw [← hRe] at hR hRf hC hsz ⊢
  clear hRe HC HS
  refine range_strs (n := 4) (S := R + 1) (P := R + 1 + 1) (V := R + 1 + 2) (R := R) (rest := r) (by omega) (by omega) (by omega) (by omega) (by omega) rfl rfl hC hR hRf (B := R) (w0 := w) (by rw [hRe2.out]; exact hb) (by omega) (by omega) (Nat.le_refl _) segB
    (fun x => { tmps := #[.string (str l), undef, .pointer (some ⟨R, 0, none⟩), .string (str r), .bool true, .string (str x), .tuple #[.string (str r), .bool true], .string (str l),
      .tuple #[.string (str r), .bool true], .string (str r), .bool true, .bool true, .bool false, .bool false, .string (str l), .int .i64 l.length, .bool (decide ((l.length : Int) < 2)), .bool (decide ((l.length : Int) < 2)), .bool (decide ((l.length : Int) < 2)),
      .string (str l), .int .i64 l.length, .bool (decide (255 < (l.length : Int))), .bool (decide ((l.length : Int) < 2) || decide (255 < (l.length : Int))), .string (str r),
      .func (.func 56) #[] #[.pointer (some ⟨R + 1 + 1, 0, none⟩), .pointer (some ⟨R + 1, 0, none⟩), .pointer (some ⟨R + 1 + 2, 0, none⟩)], .string (str x), undef, undef, undef], defers := [] }) ?assign ?body ?done
  case assign =>
    intro l' x W K hK
    gi_wp2
    exact hK
  case body =>
    intro l' x W hx hc hf
    have HG := Lib.hid (fun m => CallsIn.inRound l' ((callsIn_wide (n := m)).2 (segment_any x W hx)))
    cases hseg : segB x with
    | true =>
      rw [hseg] at HG
      gi_wp2_with (refine ⟨trivial, ?_⟩; gi_at_call 34; refine (HG.out _).mono ?_; rintro e w2 ⟨rfl, hb2⟩)
      exact ⟨rfl, hb2⟩
    | false =>
      rw [hseg] at HG
      gi_wp2_with (refine ⟨trivial, ?_⟩; gi_at_call 34; refine (HG.out _).mono ?_; rintro e w2 ⟨rfl, hb2⟩; have hc2 := (hb2.cell (p := ⟨R, 0, none⟩) (block_lt_of_cell hc)).trans hc; have hf2 := (World.frozen?_of_block (hb2.block R (block_lt_of_cell hc))).trans hf)
      exact ⟨rfl, _, hb2, rfl⟩
  case done =>
    intro D W hc hf hk hB hBD hD
    refine ⟨fun hall => ?_, fun hall => ?_⟩
    · have hr : res = true := HRES.out.symm.trans hall
      subst hr
      gi_wp2
      have hk2 : (W.setCell ⟨R, 0, none⟩ (.bool true)).heap[D]? = some (.deferred (some [])) := (Below.heap_setCell W ⟨R, 0, none⟩ _ D hD).trans hk
      have hc2 : ((W.setCell ⟨R, 0, none⟩ (.bool true)).putObj D (.deferred none)).cell? ⟨R, 0, none⟩ = some (.bool true) :=
        (World.cell?_of_block (World.putObj_heap_other (Ne.symm hD))).trans (World.cell?_setCell_same' _ _ _ (by rw [hc]; rfl))
      have hb2 := (hB.setCell (p := ⟨R, 0, none⟩) (Nat.le_refl _) (.bool true)).trans ((Below.refl R _).grown (grownBy_putObj' (W.setCell ⟨R, 0, none⟩ (.bool true)) D (.deferred none)) (Nat.le_trans hBD (Nat.le_of_lt (Array.getElem?_eq_some_iff.1 hk2).1)) (fun k e => by cases e; exact hBD))
      rw [hRe2.out] at hb2
      refine ⟨by simp, .inl ⟨_, _, rfl, run_takeDeferred hk2, ?_⟩⟩
      refine ⟨.bool true, ?_, rfl, ?_⟩
      · simp [results, Tryd.f9, go_sem, hc2]
      · rw [← hRe2.out] at hb2 ⊢; exact hb2
    · have hr : res = false := HRES.out.symm.trans hall
      subst hr
      gi_wp2
      have hc2 : (W.putObj D (.deferred none)).cell? ⟨R, 0, none⟩ = some (.bool false) := (World.cell?_of_block (World.putObj_heap_other (Ne.symm hD))).trans hc
      have hb2 := hB.trans ((Below.refl R _).grown (grownBy_putObj' W D (.deferred none)) (Nat.le_trans hBD (Nat.le_of_lt (Array.getElem?_eq_some_iff.1 hk).1)) (fun k e => by cases e; exact hBD))
      refine ⟨by simp, .inl ⟨_, _, rfl, run_takeDeferred hk, ?_⟩⟩
      refine ⟨.bool false, ?_, rfl, ?_⟩
      · simp [results, Tryd.f9, go_sem, hc2]
      · rw [← hRe2.out]; exact hb2

set_option maxHeartbeats 1000000 in
theorem right_long (l : List UInt8) (w : World) (hl : l.length ≤ 1099511627776) (h : l.head? ≠ some 47 ∨ l.length < 2 ∨ 255 < l.length) : Calls Tryd.prog 9 #[.string (str l)] w fun e w' => e = .returned (.bool false) ∧ Below w.heap.size w w' := by
  by_cases hp : l.head? = some 47
  · obtain ⟨r, rfl⟩ : ∃ r, l = 47 :: r := by
      cases l with
      | nil => simp at hp
      | cons c r => simp at hp; exact ⟨r, by rw [hp]⟩
    have HC := Lib.hid (fun w => cut_yes r w)
    obtain ⟨l, hL⟩ : ∃ l, l = 47 :: r := ⟨_, rfl⟩
    rw [← hL] at HC h hl ⊢
    by_cases h2 : l.length < 2
    · have i1 : (l.length : Int) < 2 := by omega
      clear hp hL h
      go_enter Tryd.func9, Tryd.ntmps9
      go_wp2_with (go_at_call 32; refine (HC.out _).mono ?_; rintro e w2 ⟨rfl, rfl⟩)
      refine bodyPost_ret (v := .bool false) (by simp [results, Tryd.f9, go_sem]) rfl ⟨rfl, (Below.refl _ _).alloc (Nat.le_refl _) _⟩
    · have i1 : ¬ (l.length : Int) < 2 := by omega
      have i2 : (255 : Int) < (l.length : Int) := by
        rcases h with h | h | h
        · exact absurd (by rw [hL]; rfl) h
        · omega
        · omega
      clear hp hL h
      go_enter Tryd.func9, Tryd.ntmps9
      go_wp2_with (go_at_call 32; refine (HC.out _).mono ?_; rintro e w2 ⟨rfl, rfl⟩)
      refine bodyPost_ret (v := .bool false) (by simp [results, Tryd.f9, go_sem]) rfl ⟨rfl, (Below.refl _ _).alloc (Nat.le_refl _) _⟩
  · have HC := Lib.hid (fun w => cut_no l hp w)
    clear hp h
    go_enter Tryd.func9, Tryd.ntmps9
    go_wp2_with (go_at_call 32; refine (HC.out _).mono ?_; rintro e w2 ⟨rfl, rfl⟩)
    refine bodyPost_ret (v := .bool false) (by simp [results, Tryd.f9, go_sem]) rfl ⟨rfl, (Below.refl _ _).alloc (Nat.le_refl _) _⟩
theorem right_any (l : List UInt8) (w : World) (hl : l.length ≤ 1099511627776) : Calls Tryd.prog 9 #[.string (str l)] w fun e w' => e = .returned (.bool (rightB l)) ∧ Below w.heap.size w w' := by
  by_cases h : l.head? ≠ some 47 ∨ l.length < 2 ∨ 255 < l.length
  · have : rightB l = false := by
      cases l with
      | nil => rfl
      | cons c r =>
        show (decide (c = 47) && decide (1 ≤ r.length ∧ r.length ≤ 254) && (splitL r).all segB) = false
        rcases h with h | h | h
        · have hc : ¬ c = 47 := fun e => h (by rw [e]; rfl)
          rw [decide_eq_false hc]; rfl
        · rw [decide_eq_false (show ¬ (1 ≤ r.length ∧ r.length ≤ 254) by simp at h; omega)]; simp
        · rw [decide_eq_false (show ¬ (1 ≤ r.length ∧ r.length ≤ 254) by simp at h; omega)]; simp
    rw [this]
    exact right_long l w hl h
  · obtain ⟨r, rfl⟩ : ∃ r, l = 47 :: r := by
      cases l with
      | nil => exact absurd (Or.inl (by simp)) h
      | cons c r =>
        by_cases hc : c = 47
        · exact ⟨r, by rw [hc]⟩
        · exact absurd (Or.inl (by simpa using hc)) h
    have h1 : 1 ≤ r.length := by
      rcases Nat.lt_or_ge r.length 1 with h2 | h2
      · exact absurd (Or.inr (Or.inl (by simp; omega))) h
      · exact h2
    have h2 : r.length ≤ 254 := by
      rcases Nat.lt_or_ge 254 r.length with h3 | h3
      · exact absurd (Or.inr (Or.inr (by simp; omega))) h
      · exact h3
    have : rightB (47 :: r) = (splitL r).all segB := by
      show (decide ((47 : UInt8) = 47) && decide (1 ≤ r.length ∧ r.length ≤ 254) && (splitL r).all segB) = _
      rw [decide_eq_true rfl, decide_eq_true ⟨h1, h2⟩]; rfl
    rw [this]
    exact callsIn_wide.1 (right_go r w h1 h2)
end Go.Proofs.YthedhominhgeaaaDoor
