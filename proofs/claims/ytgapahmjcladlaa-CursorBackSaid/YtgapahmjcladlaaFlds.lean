/- Fields in memory, and the reader of them: words for the walks. No condition. -/
import Derived.Test.YtgapahmjcladlaaLast
import Derived.StillTailTactics
namespace Go.Proofs.Ytgapahmjcladlaa
open Go.RowKit
set_option linter.unusedVariables false

/-- A field: its kind, its number, its bytes. -/
structure Fl where
  kind : Int
  n : Nat
  b : List UInt8
/-- A slice value that holds bytes: below L, or in a block of bytes. -/
def Bv (L : Nat) (w : World) (v : Value) (bs : List UInt8) : Prop := ∃ ad c, v = .slice ad bs.length c ∧ bs.length ≤ c ∧ (ad = none → c = 0) ∧ Bytes w ad bs ∧ ∀ x, bs ≠ [] → ad = some x → x.block < L ∨ ∃ cs fr, w.heap[x.block]? = some (.cells cs 5 fr)
theorem Bv.bytes {L : Nat} {w : World} {v : Value} {bs : List UInt8} (h : Bv L w v bs) : ∃ ad c, v = .slice ad bs.length c ∧ bs.length ≤ c ∧ (ad = none → c = 0) ∧ Bytes w ad bs := by
  obtain ⟨ad, c, h1, h2, h3, h4, _⟩ := h
  exact ⟨ad, c, h1, h2, h3, h4⟩
theorem Bytes.lt {w : World} {x : Addr} {bs : List UInt8} (h : Bytes w (some x) bs) (hne : bs ≠ []) : x.block < w.heap.size := by
  rcases h with h | ⟨b, o, ha, hc⟩
  · exact absurd h hne
  · injection ha with ha
    subst ha
    cases bs with
    | nil => exact absurd rfl hne
    | cons y ys => exact block_lt_of_cell (hc 0 y rfl)
theorem Bv.below {L : Nat} {w w' : World} {v : Value} {bs : List UInt8} (h : Bv L w v bs) (hb : Below w.heap.size w w') : Bv L w' v bs := by
  obtain ⟨ad, c, h1, h2, h3, h4, h5⟩ := h
  refine ⟨ad, c, h1, h2, h3, h4.below hb, fun x hne hx => ?_⟩
  rcases h5 x hne hx with h6 | ⟨cs, fr, h6⟩
  · exact .inl h6
  · exact .inr ⟨cs, fr, by rw [hb.block _ (Array.getElem?_eq_some_iff.1 h6).1]; exact h6⟩
theorem Bv.nil (L : Nat) (w : World) : Bv L w (.slice none 0 0) [] := ⟨none, 0, rfl, Nat.le_refl _, fun _ => rfl, .inl rfl, fun x h => absurd rfl h⟩
theorem Bv.of_below {L : Nat} {w : World} {ad : Option Addr} {c : Nat} {bs : List UInt8} (h1 : bs.length ≤ c) (h2 : ad = none → c = 0) (h3 : Bytes w ad bs) (h4 : w.heap.size ≤ L) : Bv L w (.slice ad bs.length c) bs :=
  ⟨ad, c, rfl, h1, h2, h3, fun x hne hx => by subst hx; exact .inl (Nat.lt_of_lt_of_le (h3.lt hne) h4)⟩
theorem Bv.mono {L L' : Nat} {w : World} {v : Value} {bs : List UInt8} (h : Bv L w v bs) (hL : L ≤ L') : Bv L' w v bs := by
  obtain ⟨ad, c, h1, h2, h3, h4, h5⟩ := h
  refine ⟨ad, c, h1, h2, h3, h4, fun x hne hx => ?_⟩
  rcases h5 x hne hx with h6 | h6
  · exact .inl (by omega)
  · exact .inr h6
theorem OwnB.bv {L : Nat} {w : World} {B : Nat} {v : Value} {bs : List UInt8} (h : OwnB w B 5 v bs) : Bv L w v bs := by
  obtain ⟨ao, oc, rfl, h1, h2⟩ := h.form3
  refine ⟨ao, oc, rfl, h1, h2, h.bytes' rfl, fun x hne hx => ?_⟩
  subst hx
  rcases h.2 with ⟨hv, _⟩ | ⟨g, cap', cur, hv, _, hh, _⟩
  · simp at hv
  · simp only [Value.slice.injEq, Option.some.injEq] at hv
    obtain ⟨rfl, _⟩ := hv
    exact .inr ⟨_, _, hh⟩
/-- Fields as cells. -/
def FRow (L : Nat) (w : World) (fs : List Fl) (xs : List Value) : Prop :=
  xs.length = fs.length * 3 ∧ ∀ i f, fs[i]? = some f → xs[i * 3]? = some (.int .i64 f.kind) ∧ xs[i * 3 + 1]? = some (.int .i64 f.n) ∧ ∃ v, xs[i * 3 + 2]? = some v ∧ Bv L w v f.b
/-- The slice v owns fields, in a block from B on. -/
def OwnF (L : Nat) (w : World) (B e : Nat) (v : Value) (fs : List Fl) : Prop := ∃ xs, w.ownsRow B e 3 v fs.length xs ∧ FRow L w fs xs ∧ ∀ u ∈ xs, u.oneCell' = true
/-- A block that holds no bytes. -/
def noB (L : Nat) (w : World) (R : Nat) : Prop := L ≤ R ∧ ∃ cs e fr, w.heap[R]? = some (.cells cs e fr) ∧ e ≠ 5
theorem Bv.keep {L : Nat} {w w' : World} {v : Value} {bs : List UInt8} {R : Nat} (h : Bv L w v bs) (hg : w.grownBy w' (some R)) (hR : noB L w R) : Bv L w' v bs := by
  obtain ⟨ad, c, h1, h2, h3, h4, h5⟩ := h
  obtain ⟨hL, cs, e, fr, hB, he⟩ := hR
  have hne : ∀ x, bs ≠ [] → ad = some x → x.block ≠ R := fun x hn hx hxe => by
    rcases h5 x hn hx with h6 | ⟨cs2, fr2, h6⟩
    · omega
    · rw [hxe, hB] at h6
      simp at h6
      exact he h6.2.1
  refine ⟨ad, c, h1, h2, h3, ?_, fun x hn hx => ?_⟩
  · rcases h4 with h4 | ⟨b, o, ha, hc⟩
    · exact .inl h4
    · by_cases hn : bs = []
      · exact .inl hn
      · refine .inr ⟨b, o, ha, fun i c hi => ?_⟩
        exact hg.cell (hc i c hi) (fun e => hne _ hn ha (by simpa using e))
  · rcases h5 x hn hx with h6 | ⟨cs2, fr2, h6⟩
    · exact .inl h6
    · refine .inr ⟨cs2, fr2, ?_⟩
      rw [hg.block _ (Array.getElem?_eq_some_iff.1 h6).1 (fun e => hne x hn hx (by simpa using e))]
      exact h6
theorem FRow.keep {L : Nat} {w w' : World} {fs : List Fl} {xs : List Value} {R : Nat} (h : FRow L w fs xs) (hg : w.grownBy w' (some R)) (hR : noB L w R) : FRow L w' fs xs :=
  ⟨h.1, fun i f hi => by
    obtain ⟨h1, h2, v, h3, h4⟩ := h.2 i f hi
    exact ⟨h1, h2, v, h3, h4.keep hg hR⟩⟩
theorem FRow.below {L : Nat} {w w' : World} {fs : List Fl} {xs : List Value} (h : FRow L w fs xs) (hb : Below w.heap.size w w') : FRow L w' fs xs :=
  ⟨h.1, fun i f hi => by
    obtain ⟨h1, h2, v, h3, h4⟩ := h.2 i f hi
    exact ⟨h1, h2, v, h3, h4.below hb⟩⟩
theorem OwnF.below {L : Nat} {w w' : World} {B e : Nat} {v : Value} {fs : List Fl} (h : OwnF L w B e v fs) (hb : Below w.heap.size w w') : OwnF L w' B e v fs := by
  obtain ⟨xs, h1, h2, h3⟩ := h
  refine ⟨xs, ⟨h1.1, ?_⟩, h2.below hb, h3⟩
  rcases h1.2 with h0 | ⟨g, cap, cur, hv, hg, hh, r⟩
  · exact .inl h0
  · exact .inr ⟨g, cap, cur, hv, hg, by rw [hb.block g (Array.getElem?_eq_some_iff.1 hh).1]; exact hh, r⟩
theorem OwnF.keep {L : Nat} {w w' : World} {B e R : Nat} {v : Value} {fs : List Fl} {cs : Array Value} {e2 : Nat} (h : OwnF L w B e v fs) (hg : w.grownBy w' (some R)) (hb : w.heap[R]? = some (.cells cs e2 (0, 0))) (he : e2 ≠ e) (hR : noB L w R) : OwnF L w' B e v fs := by
  obtain ⟨xs, h1, h2, h3⟩ := h
  refine ⟨xs, ⟨h1.1, ?_⟩, h2.keep hg hR, h3⟩
  rcases h1.2 with h0 | ⟨g, cap, cur, hv, hgB, hh, r⟩
  · exact .inl h0
  · refine .inr ⟨g, cap, cur, hv, hgB, ?_, r⟩
    rw [hg.block g (Array.getElem?_eq_some_iff.1 hh).1 (fun e => ?_)]
    · exact hh
    · have e3 : g = R := by simpa using e
      rw [e3, hb] at hh
      simp at hh
      exact he hh.2
theorem OwnF.nil (L : Nat) (w : World) (B e : Nat) : OwnF L w B e (.slice none 0 0) [] := ⟨[], ⟨rfl, .inl ⟨rfl, rfl⟩⟩, ⟨rfl, fun i f h => by simp at h⟩, fun u h => by simp at h⟩
theorem OwnF.form {L : Nat} {w : World} {B e : Nat} {v : Value} {fs : List Fl} (h : OwnF L w B e v fs) : ∃ ao cap, v = .slice ao fs.length cap ∧ fs.length ≤ cap ∧ (ao = none → cap = 0) := by
  obtain ⟨xs, h1, _⟩ := h
  rcases h1.2 with ⟨hv, h0⟩ | ⟨g, cap, cur, hv, hg, hh, hle, _⟩
  · exact ⟨none, 0, by rw [hv, h0], by omega, fun _ => rfl⟩
  · exact ⟨_, cap, hv, hle, fun h => by cases h⟩
/-- A field of the row, as cells. -/
theorem OwnF.at {L : Nat} {w : World} {B e : Nat} {ao : Option Addr} {n cap : Nat} {fs : List Fl} (h : OwnF L w B e (.slice ao n cap) fs) {i : Nat} {f : Fl} (hi : fs[i]? = some f) :
    ∃ g, ao = some ⟨g, 0, none⟩ ∧ w.cell? ⟨g, i * 3, none⟩ = some (.int .i64 f.kind) ∧ w.cell? ⟨g, i * 3 + 1, none⟩ = some (.int .i64 f.n) ∧ ∃ v, w.cell? ⟨g, i * 3 + 2, none⟩ = some v ∧ Bv L w v f.b := by
  obtain ⟨xs, h1, h2, _⟩ := h
  obtain ⟨r1, r2, v, r3, r4⟩ := h2.2 i f hi
  have h10 := h1
  rcases h1.2 with ⟨hv, h0⟩ | ⟨g, cap', cur, hv, hg, hh, hle, hm, hs, hx⟩
  · have : fs = [] := List.length_eq_zero_iff.1 h0
    rw [this] at hi; simp at hi
  · simp only [Value.slice.injEq] at hv
    obtain ⟨rfl, _, _⟩ := hv
    have hcell : ∀ j u, xs[j]? = some u → w.cell? ⟨g, j, none⟩ = some u := fun j u hj => by
      have := World.ownsRow.cells h10 rfl j u hj
      rwa [plain_add, Nat.zero_add] at this
    exact ⟨g, rfl, hcell _ _ r1, hcell _ _ r2, v, hcell _ _ r3, r4⟩

/-- The reader. -/
structure Rd (w : World) (R : Nat) (a : Option Addr) (n cap : Nat) (p : Int) (lv : Value) (many : Nat) : Prop where
  blk : w.heap[R]? = some (.cells #[.slice a n cap, .int .i64 p, lv, .int .i64 many] 52 (0, 0))
  lst : ∃ ao k c, lv = .slice ao k c
theorem cell_blk {w : World} {g : Nat} {cs : Array Value} {e : Nat} {fr : Nat × Nat} {u : Value} (h : w.heap[g]? = some (.cells cs e fr)) (i : Nat) (hu : cs[i]? = some u) : w.cell? ⟨g, i, none⟩ = some u := by
  rw [cell_of_row w g i cs e fr h, hu]
theorem frozen_blk {w : World} {g : Nat} {cs : Array Value} {e : Nat} (h : w.heap[g]? = some (.cells cs e (0, 0))) (i : Nat) : w.frozen? ⟨g, i, none⟩ = false := by
  simp [World.frozen?, h]
theorem Rd.noB {L : Nat} {w : World} {R : Nat} {a : Option Addr} {n cap : Nat} {p : Int} {lv : Value} {many : Nat} (h : Rd w R a n cap p lv many) (hL : L ≤ R) : noB L w R := ⟨hL, _, _, _, h.blk, by decide⟩
theorem Rd.c0 {w : World} {R : Nat} {a : Option Addr} {n cap : Nat} {p : Int} {lv : Value} {many : Nat} (h : Rd w R a n cap p lv many) : w.cell? ⟨R, 0, none⟩ = some (.slice a n cap) := cell_blk h.blk 0 rfl
theorem Rd.c1 {w : World} {R : Nat} {a : Option Addr} {n cap : Nat} {p : Int} {lv : Value} {many : Nat} (h : Rd w R a n cap p lv many) : w.cell? ⟨R, 1, none⟩ = some (.int .i64 p) := cell_blk h.blk 1 rfl
theorem Rd.c2 {w : World} {R : Nat} {a : Option Addr} {n cap : Nat} {p : Int} {lv : Value} {many : Nat} (h : Rd w R a n cap p lv many) : w.cell? ⟨R, 2, none⟩ = some lv := cell_blk h.blk 2 rfl
theorem Rd.c3 {w : World} {R : Nat} {a : Option Addr} {n cap : Nat} {p : Int} {lv : Value} {many : Nat} (h : Rd w R a n cap p lv many) : w.cell? ⟨R, 3, none⟩ = some (.int .i64 many) := cell_blk h.blk 3 rfl
theorem Rd.below {w w' : World} {R : Nat} {a : Option Addr} {n cap : Nat} {p : Int} {lv : Value} {many : Nat} (h : Rd w R a n cap p lv many) (hb : Below w.heap.size w w') : Rd w' R a n cap p lv many :=
  ⟨by rw [hb.block R (Array.getElem?_eq_some_iff.1 h.blk).1]; exact h.blk, h.lst⟩
theorem Rd.move {w : World} {R : Nat} {a : Option Addr} {n cap : Nat} {p : Int} {lv : Value} {many : Nat} (h : Rd w R a n cap p lv many) (q : Int) : Rd (w.setCell ⟨R, 1, none⟩ (.int .i64 q)) R a n cap q lv many ∧ w.grownBy (w.setCell ⟨R, 1, none⟩ (.int .i64 q)) (some R) :=
  ⟨⟨by rw [heap_setCell_same w R 1 _ 52 _ h.blk]; rfl, h.lst⟩, ⟨rfl, rfl, rfl, by rw [World.size_setCell]; exact Nat.le_refl _, fun k _ hk => heap_setCell_other w ⟨R, 1, none⟩ k _ (fun e => hk (by rw [e]))⟩⟩
theorem grown_below {w w' : World} {R : Nat} (h : Below w.heap.size w w') : w.grownBy w' (some R) := ⟨h.os, h.tape, h.output, h.size, fun k hk _ => h.block k hk⟩
theorem grown_trans {w w1 w2 : World} {R : Nat} (h : w.grownBy w1 (some R)) (k : w1.grownBy w2 (some R)) : w.grownBy w2 (some R) :=
  ⟨k.os.trans h.os, k.tape.trans h.tape, k.output.trans h.output, Nat.le_trans h.size k.size, fun i hi hr => (k.block i (Nat.lt_of_lt_of_le hi h.size) hr).trans (h.block i hi hr)⟩

theorem below_bv {L : Nat} {w w' : World} {v : Value} {bs : List UInt8} (h : Bv L w v bs) (hg : w.grownBy w' none) : Bv L w' v bs :=
  h.below ⟨hg.os, hg.tape, hg.output, hg.size, fun k hk => hg.block k hk (fun e => by cases e)⟩
theorem info39 : (Try.prog.info? 39).map (fun i => (i.zero, i.size, i.bytes)) = some (some (.agg #[.int .i64 0, .int .i64 0, .slice none 0 0]), 3, 40) := by kernel_rfl
/-- A field is appended to a row that the call owns. -/
theorem wpList_append_fld {P : Program} {ops : Array Oper} {rest : List Oper} {o : Oper} {a : Act} {w : World} {Q : Exit → Act → World → Prop} (L : Nat) (hgd : o.guard = none) (s x : Operand) (t e : TypeId)
    (ho : o.op = .call { callee := .builtin .append, args := #[s, x], argTypes := #[t, t] }) (ht : P.underlying t = some (.slice e)) (he : e ≠ 5)
    (hinfo : (P.info? e).map (fun i => (i.zero, i.size, i.bytes)) = some (some (.agg #[.int .i64 0, .int .i64 0, .slice none 0 0]), 3, 40))
    (B : Nat) (hLB : L ≤ B) (v : Value) (fs : List Fl) (f : Fl) (b : Nat) (c : Nat) (u : Value) (hs : a.eval s = v) (hown : OwnF L w B e v fs) (hx : a.eval x = .slice (some ⟨b, 0, none⟩) 1 c)
    (c0 : w.cell? ⟨b, 0, none⟩ = some (.int .i64 f.kind)) (c1 : w.cell? ⟨b, 1, none⟩ = some (.int .i64 f.n)) (c2 : w.cell? ⟨b, 2, none⟩ = some u) (hu : Bv L w u f.b)
    (hlen : fs.length + 1 ≤ 1099511627776) (hB : B ≤ w.heap.size)
    (h : ∀ v' w', OwnF L w' B e v' (fs ++ [f]) → w.grownBy w' v.ownBlock → Below B w w' → wpList P ops Q rest (a.put o.dst v') w') : wpList P ops Q (o :: rest) a w := by
  obtain ⟨i0, hi, hz0, hz1, hz2⟩ := info_parts hinfo
  obtain ⟨xs, h1, h2, h3⟩ := hown
  have hadd : ∀ j, (⟨b, 0, none⟩ : Addr).add j = ⟨b, 0 + j, none⟩ := fun j => by unfold Addr.add; split <;> simp_all
  have hu1 : u.oneCell' = true := by obtain ⟨ad, c, rfl, _⟩ := hu; rfl
  refine wpList_append_own _ hgd s x t ho B e i0 (.agg #[.int .i64 0, .int .i64 0, .slice none 0 0]) 3 40 ht hi hz0 hz1 hz2 rfl (by decide) v fs.length xs hs h1 ⟨b, 0, none⟩ 1 c [.int .i64 f.kind, .int .i64 f.n, u] hx rfl (fun j y hj => ?_) (fun y hy => ?_) (by unfold maxLen; omega) (by omega) hB ?_
  · rw [hadd, Nat.zero_add]
    match j with
    | 0 => simp at hj; rw [c0, hj]
    | 1 => simp at hj; rw [c1, hj]
    | 2 => simp at hj; rw [c2, hj]
    | k + 3 => simp at hj
  · simp at hy
    rcases hy with rfl | rfl | rfl
    · rfl
    · rfl
    · exact hu1
  intro v' w' h4 h5 _
  have hkeep : ∀ {v2 : Value} {bs : List UInt8}, Bv L w v2 bs → Bv L w' v2 bs := fun {v2 bs} hv2 => by
    rcases h1.2 with ⟨hv, _⟩ | ⟨g, cap, cur, hv, hgB, hh, r⟩
    · rw [hv] at h5
      exact below_bv hv2 h5
    · rw [hv] at h5
      exact hv2.keep h5 ⟨Nat.le_trans hLB hgB, _, _, _, hh, he⟩
  refine h v' w' ⟨xs ++ [.int .i64 f.kind, .int .i64 f.n, u], ?_, ⟨?_, fun i f2 hf => ?_⟩, fun y hy => ?_⟩ h5 (below_of_grown h5 hB (own_block h1))
  · rw [List.length_append]; exact h4
  · rw [List.length_append, List.length_append, h2.1]; show _ + 3 = (_ + 1) * 3; omega
  · have hxl := h2.1
    rcases Nat.lt_or_ge i fs.length with hi | hi
    · rw [List.getElem?_append_left hi] at hf
      obtain ⟨k1, k2, v2, k3, k4⟩ := h2.2 i f2 hf
      exact ⟨by rw [List.getElem?_append_left (by omega)]; exact k1, by rw [List.getElem?_append_left (by omega)]; exact k2, v2, by rw [List.getElem?_append_left (by omega)]; exact k3, hkeep k4⟩
    · rw [List.getElem?_append_right hi] at hf
      have hi0 : i - fs.length = 0 := by
        rcases Nat.lt_or_ge (i - fs.length) 1 with h | h
        · omega
        · rw [List.getElem?_eq_none (by simpa using h)] at hf; simp at hf
      have hie : i = fs.length := by omega
      rw [hi0] at hf
      simp at hf
      subst hf
      rw [hie]
      refine ⟨?_, ?_, u, ?_, hkeep hu⟩
      · rw [List.getElem?_append_right (by omega), show fs.length * 3 - xs.length = 0 by omega]; rfl
      · rw [List.getElem?_append_right (by omega), show fs.length * 3 + 1 - xs.length = 1 by omega]; rfl
      · rw [List.getElem?_append_right (by omega), show fs.length * 3 + 2 - xs.length = 2 by omega]; rfl
  · rcases List.mem_append.1 hy with hy | hy
    · exact h3 y hy
    · simp at hy
      rcases hy with rfl | rfl | rfl
      · rfl
      · rfl
      · exact hu1
end Go.Proofs.Ytgapahmjcladlaa
