/- A field of any kind: what the call computes, as a step over fields. -/
import Derived.Test.YtgapahmjcladlaaFldB
namespace Go.Proofs.Ytgapahmjcladlaa
open Go.RowKit
set_option linter.unusedVariables false

/-- The number that tells how many bytes the next field of bytes has. -/
def told (fs : List Fl) (many : Nat) : Option Nat := if many ≤ fs.length then match fs[fs.length - many]? with
  | some f => if f.kind ≤ 1 then some f.n else none
  | none => none else none
/-- One field, and the place behind it. -/
def readOne (bs : List UInt8) (p : Nat) (fs : List Fl) (many : Nat) (kind : Int) : Option (Fl × Nat) :=
  if kind = 0 then (if p + 2 ≤ bs.length then some (⟨0, leV ((bs.drop p).take 2), []⟩, p + 2) else none)
  else if kind = 1 then (if p + 4 ≤ bs.length then some (⟨1, leV ((bs.drop p).take 4), []⟩, p + 4) else none)
  else if kind = 2 then (match told fs many with
    | some k => if p + k ≤ bs.length then some (⟨2, 0, (bs.drop p).take k⟩, p + k) else none
    | none => none)
  else if kind = 3 then some (⟨3, 0, (bs.drop p).take (bs.length - p)⟩, p + (bs.length - p))
  else none
theorem fits_p (n p k : Nat) : fits n (p : Int) (k : Int) ↔ p + k ≤ n := by unfold fits; omega

theorem length_any {R : Nat} {a : Option Addr} {n cap : Nat} {p : Int} {lv : Value} {many B : Nat} {fs : List Fl} (w : World) (hR : Rd w R a n cap p lv many) (hF : OwnF 0 w B 39 lv fs) (hf : fs.length ≤ 1099511627776) (hm : 1 ≤ many) (hm2 : many ≤ 1099511627776) :
    Calls Try.prog 28 #[.pointer (some ⟨R, 0, none⟩)] w fun e w' => e = .returned (match told fs many with
      | some k => .tuple #[.int .i64 k, .bool true]
      | none => .tuple #[.int .i64 0, .bool false]) ∧ ∃ q, w' = w.drewN q := by
  obtain ⟨ao, c, rfl, _, _⟩ := hF.form
  unfold told
  by_cases h : many ≤ fs.length
  · rw [if_pos h]
    have hlt : fs.length - many < fs.length := by omega
    have hat : fs[fs.length - many]? = some fs[fs.length - many] := List.getElem?_eq_getElem hlt
    rw [hat]
    obtain ⟨g, rfl, d0, d1, _⟩ := hF.at hat
    have := length_at w hR hf hm (k := fs.length - many) (by omega) fs[fs.length - many] d0 d1
    refine this.mono ?_
    rintro e w' ⟨rfl, hq⟩
    refine ⟨?_, hq⟩
    show _ = Ending.returned (match (if (fs[fs.length - many]'hlt).kind ≤ 1 then some (fs[fs.length - many]'hlt).n else none) with
      | some k => _
      | none => _)
    by_cases hk : (fs[fs.length - many]'hlt).kind ≤ 1
    · rw [if_pos hk, if_pos hk]
    · rw [if_neg hk, if_neg hk]
  · rw [if_neg h]
    exact length_short w hR hf hm2 (by omega)

theorem field_any {R : Nat} {a : Option Addr} {n cap : Nat} {p : Nat} {lv : Value} {many B : Nat} {fs : List Fl} (kind : Int) (bs : List UInt8) (w : World) (hR : Rd w R a n cap p lv many) (hl : bs.length = n) (hn : n ≤ 1099511627776) (hcap : n ≤ cap) (hnil : a = none → n = 0 ∧ cap = 0) (h : p ≤ n) (hb : Bytes w a bs)
    (hF : OwnF 0 w B 39 lv fs) (hf : fs.length ≤ 1099511627776) (hm : kind = 2 → 1 ≤ many) (hm2 : many ≤ 1099511627776) :
    Calls Try.prog 20 #[.pointer (some ⟨R, 0, none⟩), .int .i64 kind] w fun e w' => w.grownBy w' (some R) ∧ match readOne bs p fs many kind with
      | some (f, q) => f.kind = kind ∧ q ≤ n ∧ ∃ v, e = .returned (.tuple #[.agg #[.int .i64 kind, .int .i64 f.n, v], .bool true]) ∧ Bv 0 w' v f.b ∧ Rd w' R a n cap q lv many
      | none => ∃ m : Nat, e = .returned (.tuple #[.agg #[.int .i64 kind, .int .i64 m, .slice none 0 0], .bool false]) := by
  unfold readOne
  by_cases k0 : kind = 0
  · subst k0
    rw [if_pos rfl]
    refine (field_two bs w hR hn h hb _ _ (fun w' hb' => number_any a n cap p 2 (by omega) bs hl hn hcap hnil w' hb')).mono ?_
    rintro e w' ⟨rfl, h1, h2⟩
    refine ⟨h2, ?_⟩
    by_cases hp : p + 2 ≤ bs.length
    · rw [if_pos hp]
      have hfi : fits bs.length (p : Int) ((2 : Nat) : Int) := (fits_p _ _ _).2 hp
      refine ⟨rfl, by show p + 2 ≤ n; omega, _, ?_, Bv.nil _ _, h1⟩
      unfold numV
      rw [if_pos hfi, decide_eq_true (by rw [← hl]; exact hfi)]; rfl
    · rw [if_neg hp]
      have hfi : ¬ fits bs.length (p : Int) ((2 : Nat) : Int) := fun h => hp ((fits_p _ _ _).1 h)
      refine ⟨numV bs p 2, ?_⟩
      rw [decide_eq_false (by rw [← hl]; exact hfi)]
  rw [if_neg k0]
  by_cases k1 : kind = 1
  · subst k1
    rw [if_pos rfl]
    refine (field_four bs w hR hn h hb _ _ (fun w' hb' => number_any a n cap p 4 (by omega) bs hl hn hcap hnil w' hb')).mono ?_
    rintro e w' ⟨rfl, h1, h2⟩
    refine ⟨h2, ?_⟩
    by_cases hp : p + 4 ≤ bs.length
    · rw [if_pos hp]
      have hfi : fits bs.length (p : Int) ((4 : Nat) : Int) := (fits_p _ _ _).2 hp
      refine ⟨rfl, by show p + 4 ≤ n; omega, _, ?_, Bv.nil _ _, h1⟩
      unfold numV
      rw [if_pos hfi, decide_eq_true (by rw [← hl]; exact hfi)]; rfl
    · rw [if_neg hp]
      have hfi : ¬ fits bs.length (p : Int) ((4 : Nat) : Int) := fun h => hp ((fits_p _ _ _).1 h)
      refine ⟨numV bs p 4, ?_⟩
      rw [decide_eq_false (by rw [← hl]; exact hfi)]
  rw [if_neg k1]
  by_cases k2 : kind = 2
  · subst k2
    rw [if_pos rfl]
    have hm := hm rfl
    have hlen : ∀ w' : World, Below w.heap.size w w' → _ := fun w' hb' => length_any w' (hR.below hb') (hF.below hb') hf hm hm2
    cases ht : told fs many with
    | none =>
      rw [ht] at hlen
      refine (field_untold bs w hR hl hn hcap hnil h hb hlen).mono ?_
      rintro e w' ⟨rfl, h1, h2⟩
      exact ⟨h2, 0, rfl⟩
    | some k =>
      rw [ht] at hlen
      by_cases hp : p + k ≤ bs.length
      · dsimp only
        rw [if_pos hp]
        refine (field_bytes bs w hR hl hn hcap hnil h hb k hlen (by omega)).mono ?_
        rintro e w' ⟨v, rfl, hv, h1, h2⟩
        exact ⟨h2, rfl, by show p + k ≤ n; omega, v, rfl, hv, h1⟩
      · dsimp only
        rw [if_neg hp]
        refine (field_noroom bs w hR hl hn hcap hnil h hb k hlen (by omega)).mono ?_
        rintro e w' ⟨rfl, h1, h2⟩
        exact ⟨h2, 0, rfl⟩
  rw [if_neg k2]
  by_cases k3 : kind = 3
  · subst k3
    rw [if_pos rfl, hl]
    refine (field_rest bs w hR hl hn hcap hnil h hb).mono ?_
    rintro e w' ⟨v, rfl, hv, h1, h2⟩
    exact ⟨h2, rfl, by show p + (n - p) ≤ n; omega, v, rfl, hv, h1⟩
  rw [if_neg k3]
  refine (field_else bs w hR hl hn hcap hnil h hb kind k0 k1 k2 k3).mono ?_
  rintro e w' ⟨rfl, h1, h2⟩
  exact ⟨h2, 0, rfl⟩
end Go.Proofs.Ytgapahmjcladlaa
