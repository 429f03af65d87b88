/- Signs as bytes, and back: plain laws of what the calls compute. -/
import Derived.Test.YthbjibgfhagonaaDoorPut
namespace Go.Proofs.YthbjibgfhagonaaDoor
open Go.RowKit
set_option linter.unusedVariables false

theorem byt_toUInt8 (x : Int) (h0 : 0 ≤ x) (h1 : x < 256) : byt x.toNat.toUInt8 = x := byt_of x h0 h1
theorem valid_iff (r : Int) : Lib.validRune r = true ↔ (0 ≤ r ∧ r < 55296) ∨ (57343 < r ∧ r ≤ 1114111) := by unfold Lib.validRune; simp

inductive Form (r : Int) : Prop
  | one (h : 0 ≤ r ∧ r ≤ 127) (e : ∃ a, encB r = [a] ∧ byt a = r)
  | two (h : 128 ≤ r ∧ r ≤ 2047) (e : ∃ a b, encB r = [a, b] ∧ byt a = 192 + r / 64 ∧ byt b = 128 + r % 64)
  | three (h : 2048 ≤ r ∧ r < 55296 ∨ 57343 < r ∧ r ≤ 65535) (e : ∃ a b c, encB r = [a, b, c] ∧ byt a = 224 + r / 4096 ∧ byt b = 128 + r / 64 % 64 ∧ byt c = 128 + r % 64)
  | four (h : 65536 ≤ r ∧ r ≤ 1114111) (e : ∃ a b c d, encB r = [a, b, c, d] ∧ byt a = 240 + r / 262144 ∧ byt b = 128 + r / 4096 % 64 ∧ byt c = 128 + r / 64 % 64 ∧ byt d = 128 + r % 64)

theorem form_of {r : Int} (h : Lib.validRune r = true) : Form r := by
  rw [valid_iff] at h
  by_cases h1 : r ≤ 127
  · refine .one ⟨by omega, h1⟩ ⟨_, by unfold encB Lib.encodeRune; rw [Lib.encodeRuneZ_one (by omega) h1]; rfl, byt_toUInt8 _ (by omega) (by omega)⟩
  by_cases h2 : r ≤ 2047
  · refine .two ⟨by omega, h2⟩ ⟨_, _, by unfold encB Lib.encodeRune; rw [Lib.encodeRuneZ_two (by omega) h2]; rfl, byt_toUInt8 _ (by omega) (by omega), byt_toUInt8 _ (by omega) (by omega)⟩
  by_cases h3 : r ≤ 65535
  · refine .three (by omega) ⟨_, _, _, by unfold encB Lib.encodeRune; rw [Lib.encodeRuneZ_three (by omega)]; rfl, byt_toUInt8 _ (by omega) (by omega), byt_toUInt8 _ (by omega) (by omega), byt_toUInt8 _ (by omega) (by omega)⟩
  · refine .four (by omega) ⟨_, _, _, _, by unfold encB Lib.encodeRune; rw [Lib.encodeRuneZ_four (by omega) (by omega)]; rfl, byt_toUInt8 _ (by omega) (by omega), byt_toUInt8 _ (by omega) (by omega), byt_toUInt8 _ (by omega) (by omega), byt_toUInt8 _ (by omega) (by omega)⟩

theorem dec_full {r : Int} (h : Lib.validRune r = true) (rest : List UInt8) : decB (encB r ++ rest) = (r, ((encB r).length : Int)) := by
  have hl := rest.length
  cases form_of h with
  | one h e =>
    obtain ⟨a, e, ea⟩ := e
    rw [e]
    unfold decB dec
    simp only [List.cons_append, List.nil_append, List.length_cons, List.getElem?_cons_zero, Option.getD_some, ea, List.length_nil]
    rw [if_neg (by omega), if_pos (by omega)]; rfl
  | two h e =>
    obtain ⟨a, b, e, ea, eb⟩ := e
    rw [e]
    unfold decB dec
    simp only [List.cons_append, List.nil_append, List.length_cons, List.getElem?_cons_zero, List.getElem?_cons_succ, Option.getD_some, ea, eb, List.length_nil]
    rw [if_neg (by omega), if_neg (by omega), if_neg (by omega), if_pos (by omega), if_neg (by omega)]
    refine Prod.ext ?_ rfl
    show _ = r
    omega
  | three h e =>
    obtain ⟨a, b, c, e, ea, eb, ec⟩ := e
    rw [e]
    unfold decB dec lo3 hi3
    simp only [List.cons_append, List.nil_append, List.length_cons, List.getElem?_cons_zero, List.getElem?_cons_succ, Option.getD_some, ea, eb, ec, List.length_nil]
    rw [if_neg (by omega), if_neg (by omega), if_neg (by omega), if_neg (by omega), if_pos (by omega), if_neg (by
      split <;> split <;> omega)]
    refine Prod.ext ?_ rfl
    show _ = r
    omega
  | four h e =>
    obtain ⟨a, b, c, d, e, ea, eb, ec, ed⟩ := e
    rw [e]
    unfold decB dec lo4 hi4
    simp only [List.cons_append, List.nil_append, List.length_cons, List.getElem?_cons_zero, List.getElem?_cons_succ, Option.getD_some, ea, eb, ec, ed, List.length_nil]
    rw [if_neg (by omega), if_neg (by omega), if_neg (by omega), if_neg (by omega), if_neg (by omega), if_neg (by omega), if_neg (by
      split <;> split <;> omega)]
    refine Prod.ext ?_ rfl
    show _ = r
    omega

theorem dec_part {r : Int} (h : Lib.validRune r = true) (j : Nat) (h1 : 0 < j) (h2 : j < (encB r).length) : decB ((encB r).take j) = (65533, 1) := by
  cases form_of h with
  | one h e =>
    obtain ⟨a, e, ea⟩ := e
    rw [e] at h2; simp at h2; omega
  | two h e =>
    obtain ⟨a, b, e, ea, eb⟩ := e
    rw [e] at h2 ⊢
    simp at h2
    have : j = 1 := by omega
    subst this
    unfold decB dec
    simp only [List.take_succ_cons, List.take_zero, List.length_cons, List.getElem?_cons_zero, List.getElem?_cons_succ, List.getElem?_nil, Option.getD_some, Option.getD_none, ea, List.length_nil]
    rw [if_neg (by omega), if_neg (by omega), if_neg (by omega), if_pos (by omega), if_pos (by omega)]
  | three h e =>
    obtain ⟨a, b, c, e, ea, eb, ec⟩ := e
    rw [e] at h2 ⊢
    simp at h2
    have : j = 1 ∨ j = 2 := by omega
    rcases this with rfl | rfl
    all_goals
      unfold decB dec
      simp only [List.take_succ_cons, List.take_zero, List.length_cons, List.getElem?_cons_zero, List.getElem?_cons_succ, List.getElem?_nil, Option.getD_some, Option.getD_none, ea, eb, List.length_nil]
      rw [if_neg (by omega), if_neg (by omega), if_neg (by omega), if_neg (by omega), if_pos (by omega), if_pos (by omega)]
  | four h e =>
    obtain ⟨a, b, c, d, e, ea, eb, ec, ed⟩ := e
    rw [e] at h2 ⊢
    simp at h2
    have : j = 1 ∨ j = 2 ∨ j = 3 := by omega
    rcases this with rfl | rfl | rfl
    all_goals
      unfold decB dec
      simp only [List.take_succ_cons, List.take_zero, List.length_cons, List.getElem?_cons_zero, List.getElem?_cons_succ, List.getElem?_nil, Option.getD_some, Option.getD_none, ea, eb, ec, List.length_nil]
      rw [if_neg (by omega), if_neg (by omega), if_neg (by omega), if_neg (by omega), if_neg (by omega), if_neg (by omega), if_pos (by omega)]

theorem enc_three : (encB 65533).length = 3 := by decide

theorem next_full {bs : List UInt8} {k : Nat} {r : Int} {rest : List UInt8} (h : Lib.validRune r = true) (hd : bs.drop k = encB r ++ rest) : nextP bs k = (r, ((encB r).length : Int)) := by
  have hl := encB_len r
  have hk : k < bs.length := by
    have := congrArg List.length hd
    simp only [List.length_drop, List.length_append] at this
    omega
  unfold nextP
  rw [if_neg (by omega), Int.toNat_natCast, hd, dec_full h]
  rw [if_neg]
  intro ⟨h1, h2⟩
  simp only at h1 h2
  rw [h1, enc_three] at h2
  omega
theorem next_part {bs : List UInt8} {k j : Nat} {r : Int} (h : Lib.validRune r = true) (h1 : 0 < j) (h2 : j < (encB r).length) (hd : bs.drop k = (encB r).take j) : nextP bs k = (0, 0) := by
  have hk : k < bs.length := by
    have := congrArg List.length hd
    simp only [List.length_drop, List.length_take] at this
    omega
  unfold nextP
  rw [if_neg (by omega), Int.toNat_natCast, hd, dec_part h j h1 h2, if_pos ⟨rfl, by simp⟩]

/-- Signs' bytes. -/
def flat (l : List Int) : List UInt8 := l.flatMap encB
theorem flat_nil : flat [] = [] := rfl
theorem flat_cons (r : Int) (l : List Int) : flat (r :: l) = encB r ++ flat l := by unfold flat; rw [List.flatMap_cons]
theorem flat_append (l m : List Int) : flat (l ++ m) = flat l ++ flat m := by unfold flat; rw [List.flatMap_append]
theorem flat_len (l : List Int) : l.length ≤ (flat l).length := by
  induction l with
  | nil => simp
  | cons r l ih => rw [flat_cons, List.length_append, List.length_cons]; have := encB_len r; omega

theorem allP_end (so : Int → Int → Bool) (bs : List UInt8) (f k : Nat) (h : bs.length ≤ k) : allP so bs f k = (0, true) := by
  cases f with
  | zero => rfl
  | succ f => rw [allP, if_pos h]
theorem allP_run (so : Int → Int → Bool) (tail : List UInt8) : ∀ (l : List Int) (pre : List UInt8) (f : Nat), (∀ r ∈ l, Lib.validRune r = true) → (∀ r ∈ l, ∀ k, so r k = true) →
    allP so (pre ++ (flat l ++ tail)) (f + l.length) pre.length = allP so (pre ++ (flat l ++ tail)) f (pre ++ flat l).length
  | [], pre, f, _, _ => by rw [flat_nil, List.append_nil]; rfl
  | r :: l, pre, f, hv, hs => by
    have hv1 := hv r (List.mem_cons_self ..)
    have hl := encB_len r
    have hd : (pre ++ (flat (r :: l) ++ tail)).drop pre.length = encB r ++ (flat l ++ tail) := by rw [List.drop_left, flat_cons, List.append_assoc]
    have hn := next_full hv1 hd
    have e1 : f + (r :: l).length = (f + l.length) + 1 := by simp; omega
    rw [e1, allP, hn]
    simp only
    rw [if_neg (by rw [flat_cons]; simp only [List.length_append]; omega), if_neg (by omega), if_neg (by rw [hs r (List.mem_cons_self ..)]; simp), Int.toNat_natCast]
    have ih := allP_run so tail l (pre ++ encB r) f (fun r h => hv r (List.mem_cons_of_mem _ h)) (fun r h => hs r (List.mem_cons_of_mem _ h))
    rw [flat_cons]
    simp only [List.append_assoc, List.length_append] at ih ⊢
    exact ih

theorem check_flat (l : List Int) (hv : ∀ r ∈ l, charP r = true) (hv2 : ∀ r ∈ l, Lib.validRune r = true) : checkP (flat l) = (0, true) := by
  unfold checkP
  have h := allP_run (fun r _ => charP r) [] l [] ((flat l).length + 1 - l.length) hv2 (fun r h _ => hv r h)
  have := flat_len l
  rw [show (flat l).length + 1 - l.length + l.length = (flat l).length + 1 by omega] at h
  simp only [List.nil_append, List.append_nil, List.length_nil] at h
  rw [h]
  exact allP_end _ _ _ _ (Nat.le_refl _)
theorem check_part (l : List Int) (hv : ∀ r ∈ l, charP r = true) (hv2 : ∀ r ∈ l, Lib.validRune r = true) (r : Int) (hr : Lib.validRune r = true) (j : Nat) (h1 : 0 < j) (h2 : j < (encB r).length) :
    checkP (flat l ++ (encB r).take j) = (((flat l).length : Int), false) := by
  unfold checkP
  have hfl := flat_len l
  have htl : ((encB r).take j).length = j := by rw [List.length_take]; omega
  have h := allP_run (fun r _ => charP r) ((encB r).take j) l [] ((flat l ++ (encB r).take j).length + 1 - l.length) hv2 (fun r h _ => hv r h)
  rw [show (flat l ++ (encB r).take j).length + 1 - l.length + l.length = (flat l ++ (encB r).take j).length + 1 by rw [List.length_append]; omega] at h
  simp only [List.nil_append, List.length_nil] at h
  rw [h, show (flat l ++ (encB r).take j).length + 1 - l.length = ((flat l ++ (encB r).take j).length - l.length) + 1 by rw [List.length_append]; omega, allP]
  rw [if_neg (by rw [List.length_append]; omega), next_part hr h1 h2 (List.drop_left ..), if_pos rfl]

theorem char_valid {r : Int} (h : charP r = true) : Lib.validRune r = true := by
  rw [valid_iff]
  unfold charP inAny charL at h
  simp at h
  omega

def starts : Nat → List Int → List Nat
  | _, [] => []
  | o, r :: l => o :: starts (o + (encB r).length) l
theorem starts_ge : ∀ (l : List Int) (o : Nat), ∀ s ∈ starts o l, o ≤ s
  | [], _, s, h => by simp [starts] at h
  | r :: l, o, s, h => by
    rw [starts, List.mem_cons] at h
    rcases h with rfl | h
    · exact Nat.le_refl _
    · have := starts_ge l _ s h; omega
def lastOf (cut : Nat) (acc : Nat) (l : List Nat) : Nat := l.foldl (fun a s => if s < cut then s else a) acc
theorem lastOf_ge (cut : Nat) : ∀ (l : List Nat) (acc : Nat), (∀ s ∈ l, cut ≤ s) → lastOf cut acc l = acc
  | [], _, _ => rfl
  | s :: l, acc, h => by
    unfold lastOf
    rw [List.foldl_cons, if_neg (by have := h s (List.mem_cons_self ..); omega)]
    exact lastOf_ge cut l acc fun s hs => h s (List.mem_cons_of_mem _ hs)
theorem cut_cases (cut : Nat) : ∀ (l : List Int) (o acc : Nat), o ≤ cut → cut ≤ o + (flat l).length →
    (∃ l1 l2, l = l1 ++ l2 ∧ cut = o + (flat l1).length ∧ (cut = o + (flat l).length ∨ cut ∈ starts o l)) ∨
    (∃ l1 r l2, l = l1 ++ r :: l2 ∧ o + (flat l1).length < cut ∧ cut < o + (flat l1).length + (encB r).length ∧ lastOf cut acc (starts o l) = o + (flat l1).length ∧ cut ≠ o + (flat l).length ∧ cut ∉ starts o l)
  | [], o, acc, h1, h2 => by
    refine .inl ⟨[], [], rfl, ?_, .inl ?_⟩ <;> (rw [flat_nil] at *; simp at *; omega)
  | r :: l, o, acc, h1, h2 => by
    have hl := encB_len r
    by_cases h3 : cut = o
    · exact .inl ⟨[], r :: l, rfl, by rw [flat_nil]; simpa using h3, .inr (by rw [starts, h3]; exact List.mem_cons_self ..)⟩
    by_cases h4 : cut < o + (encB r).length
    · refine .inr ⟨[], r, l, rfl, by rw [flat_nil]; simp; omega, by rw [flat_nil]; simpa using h4, ?_, ?_, ?_⟩
      · unfold lastOf
        rw [starts, List.foldl_cons, if_pos (by omega)]
        have := lastOf_ge cut (starts (o + (encB r).length) l) o fun s hs => by have := starts_ge l _ s hs; omega
        unfold lastOf at this
        rw [this, flat_nil]; rfl
      · rw [flat_cons, List.length_append]; omega
      · rw [starts, List.mem_cons]
        intro h
        rcases h with h | h
        · exact h3 h
        · have := starts_ge l _ _ h; omega
    · rw [flat_cons, List.length_append] at h2
      have ih := cut_cases cut l (o + (encB r).length) o (by omega) (by omega)
      rcases ih with ⟨l1, l2, e1, e2, e3⟩ | ⟨l1, r', l2, e1, e2, e3, e4, e5, e6⟩
      · refine .inl ⟨r :: l1, l2, by rw [e1]; rfl, by rw [flat_cons, List.length_append]; omega, ?_⟩
        rcases e3 with e3 | e3
        · left; rw [flat_cons, List.length_append]; omega
        · right; rw [starts]; exact List.mem_cons_of_mem _ e3
      · refine .inr ⟨r :: l1, r', l2, by rw [e1]; rfl, by rw [flat_cons, List.length_append]; omega, by rw [flat_cons, List.length_append]; omega, ?_, by rw [flat_cons, List.length_append]; omega, ?_⟩
        · unfold lastOf at e4 ⊢
          rw [starts, List.foldl_cons, if_pos (by omega), e4, flat_cons, List.length_append]; omega
        · rw [starts, List.mem_cons]
          intro h
          rcases h with h | h
          · exact h3 h
          · exact e6 h

/-- The law of the cuts, plain. -/
theorem cuts_law (l : List Int) (hc : ∀ r ∈ l, charP r = true) (cut : Nat) (h : cut ≤ (flat l).length) :
    ((cut = (flat l).length ∨ cut ∈ starts 0 l) ∧ checkP ((flat l).take cut) = (0, true)) ∨
    (¬ (cut = (flat l).length ∨ cut ∈ starts 0 l) ∧ checkP ((flat l).take cut) = ((lastOf cut 0 (starts 0 l) : Int), false)) := by
  have hv : ∀ r ∈ l, Lib.validRune r = true := fun r h => char_valid (hc r h)
  rcases cut_cases cut l 0 0 (Nat.zero_le _) (by omega) with ⟨l1, l2, e1, e2, e3⟩ | ⟨l1, r, l2, e1, e2, e3, e4, e5, e6⟩
  · refine .inl ⟨by simpa using e3, ?_⟩
    have : (flat l).take cut = flat l1 := by rw [e1, flat_append, show cut = (flat l1).length by omega, List.take_left]
    rw [this]
    exact check_flat l1 (fun r h => hc r (by rw [e1]; exact List.mem_append_left _ h)) (fun r h => hv r (by rw [e1]; exact List.mem_append_left _ h))
  · refine .inr ⟨by rintro (h | h); exact e5 (by omega); exact e6 h, ?_⟩
    have hr : r ∈ l := by rw [e1]; simp
    have : (flat l).take cut = flat l1 ++ (encB r).take (cut - (flat l1).length) := by
      rw [e1, flat_append, flat_cons, List.take_append, List.take_of_length_le (by omega), List.take_append_of_le_length (by omega)]
    rw [this, check_part l1 (fun r h => hc r (by rw [e1]; exact List.mem_append_left _ h)) (fun r h => hv r (by rw [e1]; exact List.mem_append_left _ h)) r (hv r hr) _ (by omega) (by omega), e4]
    simp
end Go.Proofs.YthbjibgfhagonaaDoor
