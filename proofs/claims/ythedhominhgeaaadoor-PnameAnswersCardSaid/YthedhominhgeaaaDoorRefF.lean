/- A name without great letters, by the document's answer: what the call computes. -/
import Derived.Test.YthedhominhgeaaaDoorPl
namespace Go.Proofs.YthedhominhgeaaaDoor
open Go.RowKit
set_option linter.unusedVariables false
attribute [local go_sem] nat_byt str_size str_get str_from str_to str_list lit_list

/-- A row of bytes that the call has made. -/
def OwnB (w : World) (B : Nat) (v : Value) (bs : List UInt8) : Prop := w.ownsRow B 5 1 v bs.length (Lib.byteCells bs) ∧ ∃ g cap, v = .slice (some ⟨g, 0, none⟩) bs.length cap
theorem OwnB.below {w w' : World} {B : Nat} {v : Value} {bs : List UInt8} (h : OwnB w B v bs) (hb : Below w.heap.size w w') : OwnB w' B v bs := by
  refine ⟨⟨h.1.1, ?_⟩, h.2⟩
  rcases h.1.2 with h0 | ⟨g, cap, cur, hv, hg, hh, r⟩
  · exact .inl h0
  · exact .inr ⟨g, cap, cur, hv, hg, (hb.block g (Array.getElem?_eq_some_iff.1 hh).1).trans hh, r⟩
theorem OwnB.lit (w : World) : OwnB (w.alloc (.cells #[] 5)) w.heap.size (.slice (some ⟨w.heap.size, 0, none⟩) 0 0) [] := by
  have := World.ownsRow_lit (e := 5) (size := 1) w #[] 0 (Nat.le_refl _) (by unfold maxLen; omega) rfl
  exact ⟨this, _, _, rfl⟩
theorem OwnB.back {w : World} {B g n cap : Nat} {bs : List UInt8} (h : OwnB w B (.slice (some ⟨g, 0, none⟩) n cap) bs) (hn : bs.length = n) : (convert 34 9 (.slice (some ⟨g, 0, none⟩) n cap)).run Tryd.prog w = .ok (.string (str bs)) w := by
  subst hn
  refine run_convert_bytes_back w 34 9 5 ⟨g, 0, none⟩ cap bs Tryd.underlying34 Tryd.underlying5 Tryd.underlying9 (fun j hj => ?_)
  exact World.ownsRow.cells h.1 rfl j _ (by unfold Lib.byteCells; rw [List.getElem?_map, List.getElem?_eq_getElem hj]; rfl)
theorem own_lt {w : World} {B e size n : Nat} {v : Value} {xs : List Value} (h : w.ownsRow B e size v n xs) : ∀ k, v.ownBlock = some k → B ≤ k := by
  intro k hk
  rcases h.2 with ⟨rfl, _⟩ | ⟨g, cap, cur, rfl, hg, _⟩
  · simp [Value.ownBlock] at hk
  · simp only [Value.ownBlock, Option.some.injEq] at hk; omega
/-- A byte is appended. -/
theorem wpList_append_one {ops : Array Oper} {rest : List Oper} {o : Oper} {a : Act} {w : World} {Q : Exit → Act → World → Prop} (hgd : o.guard = none) (s x : Operand)
    (ho : o.op = .call { callee := .builtin .append, args := #[s, x], argTypes := #[34, 34] })
    (B : Nat) (v : Value) (bs : List UInt8) (c : UInt8) (b : Nat) (cp : Nat) (hs : a.eval s = v) (hown : OwnB w B v bs) (hx : a.eval x = .slice (some ⟨b, 0, none⟩) 1 cp)
    (c0 : w.cell? ⟨b, 0, none⟩ = some (.int .u8 (byt c))) (hlen : bs.length + 1 ≤ 1099511627776) (hB : B ≤ w.heap.size)
    (h : ∀ v' w', OwnB w' B v' (bs ++ [c]) → Below B w w' → wpList Tryd.prog ops Q rest (a.put o.dst v') w') : wpList Tryd.prog ops Q (o :: rest) a w := by
  obtain ⟨i0, hi, hz0, hz1, hz2⟩ := info_parts infoU8
  have hadd : ∀ j, (⟨b, 0, none⟩ : Addr).add j = ⟨b, 0 + j, none⟩ := fun j => by unfold Addr.add; split <;> simp_all
  refine wpList_append_own _ hgd s x 34 ho B 5 i0 (.int .u8 0) 1 1 Tryd.underlying34 hi hz0 hz1 hz2 rfl (by decide) v bs.length (Lib.byteCells bs) hs hown.1 ⟨b, 0, none⟩ 1 cp [.int .u8 (byt c)] hx rfl (fun j y hj => ?_) (fun y hy => ?_) (by unfold maxLen; omega) (by omega) hB ?_
  · rw [hadd, Nat.zero_add]
    match j with
    | 0 => simp at hj; rw [c0, hj]
    | n + 1 => simp at hj
  · simp at hy; subst hy; rfl
  intro v' w' h4 h5 _
  refine h v' w' ⟨?_, ?_⟩ ((Below.refl B w).grown h5 hB (own_lt hown.1))
  · rw [cells_app, List.length_append]; exact h4
  · rcases h4.2 with ⟨_, h0⟩ | ⟨g, cap, cur, hv, _⟩
    · omega
    · exact ⟨g, cap, by rw [hv, List.length_append]; rfl⟩
theorem fold1_ref (c : UInt8) : (65 ≤ byt c ∧ byt c ≤ 90 → byt c + 32 = byt (fold1 c)) ∧ (¬ (65 ≤ byt c ∧ byt c ≤ 90) → fold1 c = c) :=
  all_bytes (p := fun c => (65 ≤ byt c ∧ byt c ≤ 90 → byt c + 32 = byt (fold1 c)) ∧ (¬ (65 ≤ byt c ∧ byt c ≤ 90) → fold1 c = c)) (by decide +kernel) c

set_option maxHeartbeats 2000000 in
theorem refFold_any (l : List UInt8) (w : World) (hl : l.length ≤ 1000000) : Calls Tryd.prog 19 #[.string (str l)] w fun e w' => e = .returned (.string (str (foldL l))) ∧ Below w.heap.size w w' := by
  go_enter Tryd.func19, Tryd.ntmps19
  go_wp2_with fail
  have hO := OwnB.lit w
  have hb1 : Below w.heap.size w (w.alloc (.cells #[] 5)) := (Below.refl _ _).alloc (Nat.le_refl _) _
  obtain ⟨w1, hw1⟩ : ∃ x, x = w.alloc (.cells #[] 5) := ⟨_, rfl⟩
  rw [← hw1] at hO hb1 ⊢
  have HO := Lib.hid hO; have HB := Lib.hid hb1
  clear hO hb1 hw1
  go_loopw [3, 4] (fun s3 s4 wx => ∃ (k : Nat), k ≤ l.length ∧ s4 = .int .i64 k ∧ Hid (OwnB wx w.heap.size s3 (foldL (l.take k))) ∧ Hid (Below w.heap.size w wx)) (fun _ i _ => l.length - (intOf i).toNat)
  case atStart => exact ⟨0, by omega, rfl, HO, HB⟩
  case round =>
    clear HO HB
    obtain ⟨k, hk, rfl, HO, HB⟩ := hrel
    obtain ⟨g, cap, rfl⟩ := HO.out.2
    have hfl : (foldL (l.take k)).length = k := by rw [foldL_len, List.length_take]; omega
    rw [hfl] at HO ⊢
    by_cases hlt : k < l.length
    · obtain ⟨c, hc⟩ : ∃ c, l[k]? = some c := ⟨l[k], List.getElem?_eq_getElem hlt⟩
      have e0 : ∀ h : k < l.length, l[k]'h = c := fun h => by rw [List.getElem?_eq_getElem h] at hc; exact Option.some.inj hc
      have hft : foldL (l.take (k + 1)) = foldL (l.take k) ++ [fold1 c] := by unfold foldL; rw [List.take_add_one, hc]; simp
      have i2 : (k : Int) < (l.length : Int) := by omega
      have hr := fold1_ref c
      have hby := byt_lt c; have hby0 := byt_nonneg c
      have HFT := Lib.hid hft
      have HLN : Hid ((foldL (l.take k)).length + 1 ≤ 1099511627776) := Lib.hid (by omega)
      clear hc hft hfl
      by_cases h1 : 65 ≤ byt c ∧ byt c ≤ 90
      · obtain ⟨j1, j2⟩ := h1
        have hv := hr.1 ⟨j1, j2⟩
        clear hr
        obtain ⟨d, hd⟩ : ∃ d, d = fold1 c := ⟨_, rfl⟩
        rw [← hd] at hv HFT
        have hd0 := byt_nonneg d; have hd1 := byt_lt d
        clear hd
        have hbl : Below wr.heap.size wr (wr.alloc (.cells #[.int .u8 (byt d)] 5)) := (Below.refl _ _).alloc (Nat.le_refl _) _
        have hbk := (new_cell (w := wr) (w' := wr.alloc (.cells #[.int .u8 (byt d)] 5)) (o := .cells #[.int .u8 (byt d)] 5) rfl (Below.refl _ _)).1
        have HBK := Lib.hid hbk
        have HO2 := Lib.hid (HO.out.below hbl); have HB2 := Lib.hid (below_step HB.out hbl)
        clear hbl hbk HO HB
        go_wp2_with (at_builtin; go_loud (refine wpList_append_one rfl (.tmp 24) (.tmp 26) rfl w.heap.size _ (foldL (l.take k)) d wr.heap.size 1 rfl HO2.out rfl HBK.out HLN.out HB2.out.size ?_))
        rintro v5 w5 hO5 hb5
        have HO5 : Hid (OwnB w5 w.heap.size v5 (foldL (l.take (k + 1)))) := by rw [HFT.out]; exact Lib.hid hO5
        have HB5 := Lib.hid (HB2.out.trans hb5)
        clear hO5 hb5 HO2 HB2 HBK
        go_wp2_with fail
        go_roundw
        case rel => exact ⟨k + 1, by omega, by simp, HO5, HB5⟩
        case measure => simp [intOf]; omega
      · have hf := hr.2 h1
        rw [hf] at HFT
        clear hr hf
        by_cases j1 : 65 ≤ byt c
        · have j2 : ¬ byt c ≤ 90 := fun h => h1 ⟨j1, h⟩
          clear h1
          have hbl : Below wr.heap.size wr (wr.alloc (.cells #[.int .u8 (byt c)] 5)) := (Below.refl _ _).alloc (Nat.le_refl _) _
          have hbk := (new_cell (w := wr) (w' := wr.alloc (.cells #[.int .u8 (byt c)] 5)) (o := .cells #[.int .u8 (byt c)] 5) rfl (Below.refl _ _)).1
          have HBK := Lib.hid hbk
          have HO2 := Lib.hid (HO.out.below hbl); have HB2 := Lib.hid (below_step HB.out hbl)
          clear hbl hbk HO HB
          go_wp2_with (at_builtin; go_loud (refine wpList_append_one rfl (.tmp 24) (.tmp 26) rfl w.heap.size _ (foldL (l.take k)) c wr.heap.size 1 rfl HO2.out rfl HBK.out HLN.out HB2.out.size ?_))
          rintro v5 w5 hO5 hb5
          have HO5 : Hid (OwnB w5 w.heap.size v5 (foldL (l.take (k + 1)))) := by rw [HFT.out]; exact Lib.hid hO5
          have HB5 := Lib.hid (HB2.out.trans hb5)
          clear hO5 hb5 HO2 HB2 HBK
          go_wp2_with fail
          go_roundw
          case rel => exact ⟨k + 1, by omega, by simp, HO5, HB5⟩
          case measure => simp [intOf]; omega
        · clear h1
          have hbl : Below wr.heap.size wr (wr.alloc (.cells #[.int .u8 (byt c)] 5)) := (Below.refl _ _).alloc (Nat.le_refl _) _
          have hbk := (new_cell (w := wr) (w' := wr.alloc (.cells #[.int .u8 (byt c)] 5)) (o := .cells #[.int .u8 (byt c)] 5) rfl (Below.refl _ _)).1
          have HBK := Lib.hid hbk
          have HO2 := Lib.hid (HO.out.below hbl); have HB2 := Lib.hid (below_step HB.out hbl)
          clear hbl hbk HO HB
          go_wp2_with (at_builtin; go_loud (refine wpList_append_one rfl (.tmp 24) (.tmp 26) rfl w.heap.size _ (foldL (l.take k)) c wr.heap.size 1 rfl HO2.out rfl HBK.out HLN.out HB2.out.size ?_))
          rintro v5 w5 hO5 hb5
          have HO5 : Hid (OwnB w5 w.heap.size v5 (foldL (l.take (k + 1)))) := by rw [HFT.out]; exact Lib.hid hO5
          have HB5 := Lib.hid (HB2.out.trans hb5)
          clear hO5 hb5 HO2 HB2 HBK
          go_wp2_with fail
          go_roundw
          case rel => exact ⟨k + 1, by omega, by simp, HO5, HB5⟩
          case measure => simp [intOf]; omega
    · have hkn : k = l.length := by omega
      have hft : l.take k = l := by rw [hkn, List.take_length]
      rw [hft] at HO
      have hj : ¬ (k : Int) < (l.length : Int) := by omega
      have q := HO.out.back (by rw [foldL_len]; omega)
      clear hft hkn hfl
      go_wp2_with fail
      go_ret
      exact ⟨rfl, HB.out⟩
end Go.Proofs.YthedhominhgeaaaDoor
