/- Rows of tokens in memory, and rows of tokens that a call owns: words and laws for the walks. No condition. -/
import Derived.Test.YtegfacepnklbjaaRight
import Derived.Deep.AppendLies
namespace Go.Proofs.Ytegfacepnklbjaa
open Go.RowKit
set_option linter.unusedVariables false

def tkC (t : Tk) : List Value := [.int .u8 (byt t.lit), .int .i64 t.len, .int .i64 t.dist]
def flatT (ts : List Tk) : List Value := ts.flatMap tkC
theorem flatT_len (ts : List Tk) : (flatT ts).length = ts.length * 3 := by
  induction ts with
  | nil => rfl
  | cons t ts ih => unfold flatT at ih ⊢; simp only [List.flatMap_cons, List.length_append, ih, List.length_cons, tkC, List.length_nil]; omega
theorem flatT_snoc (ts us : List Tk) : flatT (ts ++ us) = flatT ts ++ flatT us := List.flatMap_append
theorem flatT_get {ts : List Tk} {i : Nat} {t : Tk} (h : ts[i]? = some t) :
    (flatT ts)[i * 3]? = some (.int .u8 (byt t.lit)) ∧ (flatT ts)[i * 3 + 1]? = some (.int .i64 t.len) ∧ (flatT ts)[i * 3 + 2]? = some (.int .i64 t.dist) := by
  induction ts generalizing i with
  | nil => simp at h
  | cons s ts ih =>
    have e : flatT (s :: ts) = tkC s ++ flatT ts := rfl
    cases i with
    | zero =>
      simp at h
      subst h
      rw [e]
      simp [tkC]
    | succ i =>
      rw [List.getElem?_cons_succ] at h
      obtain ⟨h1, h2, h3⟩ := ih h
      have el : (tkC s).length = 3 := rfl
      rw [e]
      refine ⟨?_, ?_, ?_⟩
      · rw [List.getElem?_append_right (by rw [el]; omega), el, show (i + 1) * 3 - 3 = i * 3 by omega]; exact h1
      · rw [List.getElem?_append_right (by rw [el]; omega), el, show (i + 1) * 3 + 1 - 3 = i * 3 + 1 by omega]; exact h2
      · rw [List.getElem?_append_right (by rw [el]; omega), el, show (i + 1) * 3 + 2 - 3 = i * 3 + 2 by omega]; exact h3
theorem flatT_one {ts : List Tk} {u : Value} (h : u ∈ flatT ts) : u.oneCell' = true := by
  unfold flatT at h
  obtain ⟨t, _, ht⟩ := List.mem_flatMap.1 h
  simp [tkC] at ht
  rcases ht with rfl | rfl | rfl <;> rfl

/-- Tokens that lie in memory: none; or from an address on. -/
def Toks (w : World) (a : Option Addr) (ts : List Tk) : Prop :=
  ts = [] ∨ ∃ b o, a = some ⟨b, o, none⟩ ∧ ∀ j u, (flatT ts)[j]? = some u → w.cell? ⟨b, o + j, none⟩ = some u
theorem Toks.below {w w' : World} {a : Option Addr} {ts : List Tk} (h : Toks w a ts) (hb : Below w.heap.size w w') : Toks w' a ts := by
  rcases h with h | ⟨b, o, ha, hc⟩
  · exact .inl h
  · exact .inr ⟨b, o, ha, fun i c hi => by
      have h1 := hc i c hi
      rw [hb.cell (block_lt_of_cell h1)]; exact h1⟩
theorem Toks.take {w : World} {a : Option Addr} {ts : List Tk} (h : Toks w a ts) (k : Nat) : Toks w a (ts.take k) := by
  rcases h with rfl | ⟨b, o, ha, hc⟩
  · exact .inl (by simp)
  · refine .inr ⟨b, o, ha, fun j u hj => hc j u ?_⟩
    have e : flatT ts = flatT (ts.take k) ++ flatT (ts.drop k) := by rw [← flatT_snoc, List.take_append_drop]
    rw [e, List.getElem?_append_left]
    · exact hj
    · rcases Nat.lt_or_ge j (flatT (ts.take k)).length with h | h
      · exact h
      · rw [List.getElem?_eq_none h] at hj; simp at hj
theorem Toks.at {w : World} {b o : Nat} {ts : List Tk} (h : ∀ j u, (flatT ts)[j]? = some u → w.cell? ⟨b, o + j, none⟩ = some u) {i : Nat} {t : Tk} (ht : ts[i]? = some t) :
    w.cell? ⟨b, o + i * 3, none⟩ = some (.int .u8 (byt t.lit)) ∧ w.cell? ⟨b, o + i * 3 + 1, none⟩ = some (.int .i64 t.len) ∧ w.cell? ⟨b, o + i * 3 + 2, none⟩ = some (.int .i64 t.dist) := by
  obtain ⟨h1, h2, h3⟩ := flatT_get ht
  exact ⟨h _ _ h1, h _ _ h2, h _ _ h3⟩
/-- The slice v owns the tokens ts, in a block from B on. -/
def OwnT (w : World) (B e : Nat) (v : Value) (ts : List Tk) : Prop := w.ownsRow B e 3 v ts.length (flatT ts)
theorem OwnT.below {w w' : World} {B e : Nat} {v : Value} {ts : List Tk} (h : OwnT w B e v ts) (hb : Below w.heap.size w w') : OwnT w' B e v ts := by
  unfold OwnT at h ⊢
  refine ⟨h.1, ?_⟩
  rcases h.2 with h2 | ⟨g, cap, cur, hv, hg, hh, r⟩
  · exact .inl h2
  · exact .inr ⟨g, cap, cur, hv, hg, by rw [hb.block g (Array.getElem?_eq_some_iff.1 hh).1]; exact hh, r⟩
theorem OwnT.nil (w : World) (B e : Nat) : OwnT w B e (.slice none 0 0) [] := ⟨rfl, .inl ⟨rfl, rfl⟩⟩
theorem OwnT.empty (w : World) (e : Nat) : OwnT (w.alloc (.cells #[] e)) w.heap.size e (.slice (some ⟨w.heap.size, 0, none⟩) 0 0) [] := by
  have := World.ownsRow_lit (e := e) (size := 3) w #[] 0 (Nat.le_refl _) (by unfold maxLen; omega) rfl
  exact this
theorem OwnT.form {w : World} {B e : Nat} {v : Value} {ts : List Tk} (h : OwnT w B e v ts) : ∃ ao cap, v = .slice ao ts.length cap ∧ ts.length ≤ cap ∧ (ao = none → cap = 0) := by
  rcases h.2 with ⟨hv, h0⟩ | ⟨g, cap, cur, hv, hg, hh, hle, _⟩
  · exact ⟨none, 0, by rw [hv, h0], by omega, fun _ => rfl⟩
  · exact ⟨_, cap, hv, hle, fun h => by cases h⟩
theorem OwnT.toks {w : World} {B e cap n : Nat} {ao : Option Addr} {ts : List Tk} (h : OwnT w B e (.slice ao n cap) ts) : Toks w ao ts := by
  rcases h.2 with ⟨hv, h0⟩ | ⟨g, cap', cur, hv, hg, hh, hle, hm, hs, hx⟩
  · exact .inl (List.length_eq_zero_iff.1 h0)
  · simp only [Value.slice.injEq] at hv
    obtain ⟨rfl, rfl, rfl⟩ := hv
    refine .inr ⟨g, 0, rfl, fun j u hj => ?_⟩
    have hadd : (⟨g, 0, none⟩ : Addr).add j = ⟨g, 0 + j, none⟩ := by unfold Addr.add; split <;> simp_all
    rw [← hadd]
    exact World.ownsRow.cells h rfl j u hj

theorem mk_one (w : World) (t : Tk) (e : TypeId) (m : Nat × Nat) : Toks (w.alloc (.cells #[.int .u8 (byt t.lit), .int .i64 t.len, .int .i64 t.dist] e m)) (some ⟨w.heap.size, 0, none⟩) [t] :=
  .inr ⟨_, _, rfl, fun j u hj => by rw [Nat.zero_add, World.cell?_alloc_mark]; simpa [flatT, tkC] using hj⟩

/-- Tokens are appended to a row that the call owns. -/
theorem wpList_append_toks {P : Program} {ops : Array Oper} {rest : List Oper} {o : Oper} {a : Act} {w : World} {Q : Exit → Act → World → Prop} (hgd : o.guard = none) (s x : Operand) (t e : TypeId)
    (ho : o.op = .call { callee := .builtin .append, args := #[s, x], argTypes := #[t, t] }) (ht : P.underlying t = some (.slice e))
    (hinfo : (P.info? e).map (fun i => (i.zero, i.size, i.bytes)) = some (some (.agg #[.int .u8 0, .int .i64 0, .int .i64 0]), 3, 24))
    (B : Nat) (v : Value) (us ts : List Tk) (ad : Option Addr) (n cap : Nat) (hs : a.eval s = v) (hown : OwnT w B e v us) (hx : a.eval x = .slice ad n cap) (hn : ts.length = n) (hb : Toks w ad ts) (hnil : ad = none → cap = 0)
    (hlen : us.length + ts.length ≤ 1099511627776) (hB : B ≤ w.heap.size)
    (h : ∀ v' w', OwnT w' B e v' (us ++ ts) → w.grownBy w' v.ownBlock → Below B w w' → wpList P ops Q rest (a.put o.dst v') w') : wpList P ops Q (o :: rest) a w := by
  subst hn
  obtain ⟨i0, hi, hz0, hz1, hz2⟩ := info_parts hinfo
  have go : ∀ (y : Addr), a.eval x = .slice (some y) ts.length cap → (∀ j u, (flatT ts)[j]? = some u → w.cell? (y.add j) = some u) → wpList P ops Q (o :: rest) a w := fun y hy hc => by
    refine wpList_append_own _ hgd s x t ho B e i0 (.agg #[.int .u8 0, .int .i64 0, .int .i64 0]) 3 24 ht hi hz0 hz1 hz2 rfl (by decide) v us.length (flatT us) hs hown y ts.length cap (flatT ts) hy (flatT_len _) hc (fun u hu => flatT_one hu) (by unfold maxLen; omega) (by omega) hB ?_
    intro v' w' h1 h2 _
    refine h v' w' ?_ h2 (below_of_grown h2 hB (own_block hown))
    unfold OwnT
    rw [List.length_append, flatT_snoc]
    exact h1
  rcases hb with rfl | ⟨b, f, rfl, hc⟩
  · cases ad with
    | none =>
      have : cap = 0 := hnil rfl
      subst this
      exact wpList_append_own_none hgd s x t ho B e i0 3 ht hi v us.length (flatT us) hs hown hx (h v w (by rw [List.append_nil]; exact hown) (World.grownBy.refl _ _) (Below.refl _ _))
    | some y => exact go y hx (fun j u hj => by simp [flatT] at hj)
  · refine go _ hx fun j u hj => ?_
    have hadd : (⟨b, f, none⟩ : Addr).add j = ⟨b, f + j, none⟩ := by unfold Addr.add; split <;> simp_all
    rw [hadd]
    exact hc j u hj
theorem info34 : (Try.prog.info? 34).map (fun i => (i.zero, i.size, i.bytes)) = some (some (.agg #[.int .u8 0, .int .i64 0, .int .i64 0]), 3, 24) := by kernel_rfl
theorem info51 : (Try.prog.info? 51).map (fun i => (i.zero, i.size, i.bytes)) = some (some (.agg #[.int .u8 0, .int .i64 0, .int .i64 0]), 3, 24) := by kernel_rfl

theorem OwnT.not_bytes {w : World} {B B' e : Nat} {v u : Value} {ts : List Tk} {bs : List UInt8} (h : OwnT w B e v ts) (hb : OwnB w B' 5 u bs) (he : e ≠ 5) (g : Nat) (hv : v.ownBlock = some g) : u.ownBlock ≠ some g := by
  intro hu
  rcases h.2 with ⟨rfl, _⟩ | ⟨g1, c1, cur1, rfl, _, h1, _⟩
  · simp [Value.ownBlock] at hv
  · rcases hb.2 with ⟨rfl, _⟩ | ⟨g2, c2, cur2, rfl, _, h2, _⟩
    · simp [Value.ownBlock] at hu
    · simp only [Value.ownBlock, Option.some.injEq] at hv hu
      subst hv; subst hu
      rw [h1] at h2
      simp at h2
      exact he h2.2
end Go.Proofs.Ytegfacepnklbjaa
