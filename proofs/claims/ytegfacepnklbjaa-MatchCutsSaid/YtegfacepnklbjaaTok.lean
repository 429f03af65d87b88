/- Tokens, and the bytes that they tell: the plain law, without a program. No condition. -/
import Derived.Lib.Hide
namespace Go.Proofs.Ytegfacepnklbjaa
set_option linter.unusedVariables false

/-- A token: a byte, or a copy. -/
structure Tk where
  lit : UInt8
  len : Nat
  dist : Nat

def okT (t : Tk) : Bool := (t.len == 0 && t.dist == 0) || (decide (3 ≤ t.len) && decide (t.len ≤ 258) && decide (1 ≤ t.dist) && decide (t.dist ≤ 32768) && t.lit == 0)
/-- So many bytes copied from so far back. -/
def cp (o : List UInt8) (d : Nat) : Nat → List UInt8
  | 0 => o
  | k + 1 => cp o d k ++ [((cp o d k)[(cp o d k).length - d]?).getD 0]
theorem cp_len (o : List UInt8) (d k : Nat) : (cp o d k).length = o.length + k := by
  induction k with
  | zero => rfl
  | succ k ih => simp [cp, ih]; omega
def stepT (o : List UInt8) (t : Tk) : List UInt8 := if t.len = 0 then o ++ [t.lit] else cp o t.dist t.len
def expT (lim : Nat) : List UInt8 → List Tk → List UInt8 × Int
  | o, [] => (o, 0)
  | o, t :: ts => if okT t = true ∧ t.dist ≤ o.length then (if o.length + max t.len 1 ≤ lim then expT lim (stepT o t) ts else ([], 14)) else ([], 10)
theorem stepT_len (o : List UInt8) (t : Tk) : (stepT o t).length = o.length + max t.len 1 := by
  unfold stepT
  split
  · simp; omega
  · rw [cp_len]; omega
theorem expT_len (lim : Nat) (o : List UInt8) (ts : List Tk) (h : o.length ≤ lim) : (expT lim o ts).1.length ≤ lim := by
  induction ts generalizing o with
  | nil => exact h
  | cons t ts ih =>
    unfold expT
    split
    · split
      · exact ih _ (by rw [stepT_len]; assumption)
      · simp
    · simp

/-- A token that tells the bytes b from a place on. -/
def good (b : List UInt8) (p : Nat) (t : Tk) : Prop :=
  (t.len = 0 ∧ t.dist = 0 ∧ b[p]? = some t.lit) ∨
  (3 ≤ t.len ∧ t.len ≤ 258 ∧ 1 ≤ t.dist ∧ t.dist ≤ 32768 ∧ t.lit = 0 ∧ t.dist ≤ p ∧ p + t.len ≤ b.length ∧ ∀ i, i < t.len → b[p + i]? = b[p + i - t.dist]?)
def ends (p : Nat) : List Tk → Nat
  | [] => p
  | t :: ts => ends (p + max t.len 1) ts
def Tells (b : List UInt8) : Nat → List Tk → Prop
  | _, [] => True
  | p, t :: ts => good b p t ∧ Tells b (p + max t.len 1) ts

theorem ends_le (p : Nat) (ts : List Tk) : p + ts.length ≤ ends p ts := by
  induction ts generalizing p with
  | nil => exact Nat.le_refl _
  | cons t ts ih => have := ih (p + max t.len 1); simp only [ends, List.length_cons]; omega
theorem ends_snoc (p : Nat) (ts : List Tk) (t : Tk) : ends p (ts ++ [t]) = ends p ts + max t.len 1 := by
  induction ts generalizing p with
  | nil => rfl
  | cons s ts ih => exact ih _
theorem ends_append (p : Nat) (ts us : List Tk) : ends p (ts ++ us) = ends (ends p ts) us := by
  induction ts generalizing p with
  | nil => rfl
  | cons s ts ih => exact ih _
theorem tells_append (b : List UInt8) (p : Nat) (ts us : List Tk) : Tells b p (ts ++ us) ↔ Tells b p ts ∧ Tells b (ends p ts) us := by
  induction ts generalizing p with
  | nil => simp [Tells, ends]
  | cons s ts ih => simp only [List.cons_append, Tells, ends, ih, and_assoc]
theorem good_ok {b : List UInt8} {p : Nat} {t : Tk} (h : good b p t) : okT t = true ∧ t.dist ≤ p := by
  rcases h with ⟨h1, h2, h3⟩ | ⟨h1, h2, h3, h4, h5, h6, _⟩
  · simp [okT, h1, h2]
  · refine ⟨?_, h6⟩
    simp [okT, h1, h2, h3, h4, h5]
theorem good_end {b : List UInt8} {p : Nat} {t : Tk} (h : good b p t) : p + max t.len 1 ≤ b.length := by
  rcases h with ⟨h1, h2, h3⟩ | ⟨h1, h2, h3, h4, h5, h6, h7, _⟩
  · obtain ⟨hlt, _⟩ := List.getElem?_eq_some_iff.1 h3
    omega
  · omega
theorem take_snoc {b : List UInt8} {n : Nat} {c : UInt8} (h : b[n]? = some c) : b.take (n + 1) = b.take n ++ [c] := by
  rw [List.take_add_one, h]; rfl
theorem good_step {b : List UInt8} {p : Nat} {t : Tk} (h : good b p t) : stepT (b.take p) t = b.take (p + max t.len 1) := by
  have he := good_end h
  unfold stepT
  rcases h with ⟨h1, h2, h3⟩ | ⟨h1, h2, h3, h4, h5, h6, h7, h8⟩
  · rw [if_pos h1, h1]
    exact (take_snoc h3).symm
  · rw [if_neg (by omega), show max t.len 1 = t.len by omega]
    have : ∀ k, k ≤ t.len → cp (b.take p) t.dist k = b.take (p + k) := by
      intro k
      induction k with
      | zero => intro _; rfl
      | succ k ih =>
        intro hk
        have hc := ih (by omega)
        unfold cp
        rw [hc]
        have hl : (b.take (p + k)).length = p + k := by rw [List.length_take]; omega
        obtain ⟨c, hcc⟩ : ∃ c, b[p + k]? = some c := ⟨b[p + k]'(by omega), List.getElem?_eq_getElem (by omega)⟩
        rw [hl, List.getElem?_take, if_pos (by omega), ← h8 k (by omega), hcc, ← Nat.add_assoc]
        exact (take_snoc hcc).symm
    exact this t.len (Nat.le_refl _)
theorem tells_end {b : List UInt8} {p : Nat} {ts : List Tk} (h : Tells b p ts) (hp : p ≤ b.length) : ends p ts ≤ b.length := by
  induction ts generalizing p with
  | nil => exact hp
  | cons t ts ih => exact ih h.2 (good_end h.1)
theorem exp_tells {b : List UInt8} {p lim : Nat} {ts : List Tk} (h : Tells b p ts) (hp : p ≤ b.length) (hl : ends p ts ≤ lim) : expT lim (b.take p) ts = (b.take (ends p ts), 0) := by
  induction ts generalizing p with
  | nil => rfl
  | cons t ts ih =>
    have h1 := good_ok h.1
    have h2 := good_end h.1
    have h3 : (b.take p).length = p := by rw [List.length_take]; omega
    have h4 := ends_le (p + max t.len 1) ts
    unfold expT
    rw [h3, if_pos h1, if_pos (by simp only [ends] at hl; omega), good_step h.1]
    exact ih h.2 h2 hl
theorem exp_limit {b : List UInt8} {p lim : Nat} {ts : List Tk} (h : Tells b p ts) (hp : p ≤ b.length) (hpl : p ≤ lim) (hl : lim < ends p ts) : expT lim (b.take p) ts = ([], 14) := by
  induction ts generalizing p with
  | nil => simp only [ends] at hl; omega
  | cons t ts ih =>
    have h1 := good_ok h.1
    have h2 := good_end h.1
    have h3 : (b.take p).length = p := by rw [List.length_take]; omega
    unfold expT
    rw [h3, if_pos h1]
    by_cases h5 : p + max t.len 1 ≤ lim
    · rw [if_pos h5, good_step h.1]
      exact ih h.2 h2 h5 hl
    · rw [if_neg h5]
/-- Where a copy stands, the tokens are fewer than the bytes. -/
theorem ends_lt {p : Nat} {ts : List Tk} (h : ∃ t ∈ ts, 2 ≤ t.len) : p + ts.length < ends p ts := by
  induction ts generalizing p with
  | nil => simp at h
  | cons t ts ih =>
    obtain ⟨s, hs, hl⟩ := h
    simp only [ends, List.length_cons]
    rcases List.mem_cons.1 hs with rfl | hs
    · have := ends_le (p + max s.len 1) ts; omega
    · have := @ih (p + max t.len 1) ⟨s, hs, hl⟩; omega
theorem ends_eq {p : Nat} {ts : List Tk} (h : ∀ t ∈ ts, t.len = 0) : ends p ts = p + ts.length := by
  induction ts generalizing p with
  | nil => rfl
  | cons t ts ih =>
    simp only [ends, List.length_cons]
    rw [ih fun s hs => h s (List.mem_cons_of_mem _ hs), h t (List.mem_cons_self ..)]
    simp; omega
theorem good_right {a b : List UInt8} {p : Nat} {t : Tk} (h : good b p t) : good (a ++ b) (a.length + p) t := by
  rcases h with ⟨h1, h2, h3⟩ | ⟨h1, h2, h3, h4, h5, h6, h7, h8⟩
  · exact .inl ⟨h1, h2, by rw [List.getElem?_append_right (by omega), show a.length + p - a.length = p by omega]; exact h3⟩
  · refine .inr ⟨h1, h2, h3, h4, h5, by omega, by rw [List.length_append]; omega, fun i hi => ?_⟩
    rw [List.getElem?_append_right (by omega), List.getElem?_append_right (by omega), show a.length + p + i - a.length = p + i by omega, show a.length + p + i - t.dist - a.length = p + i - t.dist by omega]
    exact h8 i hi
theorem good_left {a b : List UInt8} {p : Nat} {t : Tk} (h : good a p t) : good (a ++ b) p t := by
  have he := good_end h
  rcases h with ⟨h1, h2, h3⟩ | ⟨h1, h2, h3, h4, h5, h6, h7, h8⟩
  · exact .inl ⟨h1, h2, by rw [List.getElem?_append_left (by omega)]; exact h3⟩
  · refine .inr ⟨h1, h2, h3, h4, h5, h6, by rw [List.length_append]; omega, fun i hi => ?_⟩
    rw [List.getElem?_append_left (by omega), List.getElem?_append_left (by omega)]
    exact h8 i hi
theorem ends_shift (m p : Nat) (ts : List Tk) : ends (m + p) ts = m + ends p ts := by
  induction ts generalizing p with
  | nil => rfl
  | cons t ts ih => simp only [ends]; rw [← ih, Nat.add_assoc]
theorem tells_right {a b : List UInt8} {p : Nat} {ts : List Tk} (h : Tells b p ts) : Tells (a ++ b) (a.length + p) ts := by
  induction ts generalizing p with
  | nil => trivial
  | cons t ts ih => exact ⟨good_right h.1, by rw [Nat.add_assoc]; exact ih h.2⟩
theorem tells_left {a b : List UInt8} {p : Nat} {ts : List Tk} (h : Tells a p ts) : Tells (a ++ b) p ts := by
  induction ts generalizing p with
  | nil => trivial
  | cons t ts ih => exact ⟨good_left h.1, ih h.2⟩
theorem tells_both {a b : List UInt8} {x y : List Tk} (hx : Tells a 0 x) (hy : Tells b 0 y) (ex : ends 0 x = a.length) (ey : ends 0 y = b.length) : Tells (a ++ b) 0 (x ++ y) ∧ ends 0 (x ++ y) = (a ++ b).length := by
  refine ⟨(tells_append _ _ _ _).2 ⟨tells_left hx, ?_⟩, ?_⟩
  · rw [ex]; exact tells_right hy
  · rw [ends_append, ex, List.length_append, ← ey]; exact ends_shift _ 0 _
theorem tells_take {b : List UInt8} {p : Nat} {ts : List Tk} (h : Tells b p ts) (k : Nat) : Tells b p (ts.take k) := by
  rw [← List.take_append_drop k ts] at h
  exact ((tells_append _ _ _ _).1 h).1

/-- Three bytes that stood ahead, too. -/
def Again (b : List UInt8) (p : Nat) : Prop := p + 3 ≤ b.length ∧ ∃ q, q < p ∧ ∀ i, i < 3 → b[q + i]? = b[p + i]?
/-- What a search says: its tokens tell the bytes; at no level above nought there is no copy; else one, where three bytes come again. -/
structure Found (b : List UInt8) (level : Int) (ts : List Tk) : Prop where
  tells : Tells b 0 ts
  ends : ends 0 ts = b.length
  none : level ≤ 0 → ∀ t ∈ ts, t.len = 0
  some : 1 ≤ level → (∃ t ∈ ts, 3 ≤ t.len) ∨ ∀ p, ¬ Again b p
theorem good_len {b : List UInt8} {p : Nat} {t : Tk} (h : good b p t) : t.len = 0 ∨ 3 ≤ t.len := by
  rcases h with h | h
  · exact .inl h.1
  · exact .inr h.1
theorem good_again {b : List UInt8} {p : Nat} {t : Tk} (h : good b p t) (h3 : 3 ≤ t.len) : Again b p := by
  rcases h with h | ⟨h1, h2, h3, h4, h5, h6, h7, h8⟩
  · omega
  · refine ⟨by omega, p - t.dist, by omega, fun i hi => ?_⟩
    rw [h8 i (by omega), show p + i - t.dist = p - t.dist + i by omega]
end Go.Proofs.Ytegfacepnklbjaa
