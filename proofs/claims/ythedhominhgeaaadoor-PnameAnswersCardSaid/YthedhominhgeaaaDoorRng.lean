/- A loop over the library's cutter, whose body returns at once where a piece is not right: the law of the walk. -/
import Derived.Test.YthedhominhgeaaaDoorIter
import Derived.RangeFuncKeeps
namespace Go.Proofs.YthedhominhgeaaaDoor
open Go.RowKit Go.Shelf
set_option linter.unusedVariables false

theorem Cutter.blocks {S P V : Nat} {t : List UInt8} {W W' : World} (h : Cutter S P V t W) (hS : W'.heap[S]? = W.heap[S]?) (hP : W'.heap[P]? = W.heap[P]?) (hV : W'.heap[V]? = W.heap[V]?) : Cutter S P V t W' :=
  ⟨(World.cell?_of_block hS).trans h.s, (World.frozen?_of_block hS).trans h.f, (World.cell?_of_block hP).trans h.p, (World.cell?_of_block hV).trans h.v⟩
theorem Cutter.lt {S P V : Nat} {t : List UInt8} {W : World} (h : Cutter S P V t W) : S < W.heap.size ∧ P < W.heap.size ∧ V < W.heap.size :=
  ⟨block_lt_of_cell h.s, block_lt_of_cell h.p, block_lt_of_cell h.v⟩

/-- How the body of a round is left. -/
def Left (R : Nat) (ok : Bool) (W : World) : Exit → Act → World → Prop
  | .normal, _, W' => ok = true ∧ Below W.heap.size W W'
  | .ret, _, W' => ok = false ∧ ∃ W2, Below W.heap.size W W2 ∧ W' = W2.setCell ⟨R, 0, none⟩ (.bool false)
  | .exit _, _, _ => False
  | .goto _, _, _ => False
  | .panic _, _, _ => False
  | .outgrown, _, _ => False
/-- The result's cell, the loop's record, the block of deferred calls. -/
structure Stand (R L D B : Nat) (w0 : World) (rec : Loop) (W : World) : Prop where
  c : W.cell? ⟨R, 0, none⟩ = some (.bool false)
  f : W.frozen? ⟨R, 0, none⟩ = false
  l : W.heap[L]? = some (.loop rec)
  k : W.heap[D]? = some (.deferred (some []))
  b : Below B w0 W
theorem Stand.set {R L D B : Nat} {w0 : World} {rec : Loop} {W : World} (h : Stand R L D B w0 rec W) {S : Nat} (v : Value) (hR : R ≠ S) (hL : L ≠ S) (hD : D ≠ S) (hB : B ≤ S) : Stand R L D B w0 rec (W.setCell ⟨S, 0, none⟩ v) :=
  ⟨(World.cell?_of_block (Below.heap_setCell W ⟨S, 0, none⟩ _ R hR)).trans h.c, by rw [World.frozen?_setCell]; exact h.f,
   (Below.heap_setCell W ⟨S, 0, none⟩ _ L hL).trans h.l, (Below.heap_setCell W ⟨S, 0, none⟩ _ D hD).trans h.k, h.b.setCell (p := ⟨S, 0, none⟩) hB _⟩
theorem Stand.put {R L D B : Nat} {w0 : World} {rec : Loop} {W : World} (h : Stand R L D B w0 rec W) (rec' : Loop) (hR : R ≠ L) (hD : D ≠ L) (hB : B ≤ L) : Stand R L D B w0 rec' (W.putObj L (.loop rec')) := by
  have hlt := (Array.getElem?_eq_some_iff.1 h.l).1
  exact ⟨(World.cell?_of_block (World.putObj_heap_other hR)).trans h.c, (World.frozen?_of_block (World.putObj_heap_other hR)).trans h.f,
    World.putObj_heap_same hlt, (World.putObj_heap_other hD).trans h.k,
    h.b.trans ((Below.refl B W).grown (grownBy_putObj' W L _) (by omega) (fun k e => by cases e; exact hB))⟩
theorem Stand.below {R L D B : Nat} {w0 : World} {rec : Loop} {W W' : World} (h : Stand R L D B w0 rec W) (hb : Below W.heap.size W W') (hB : B ≤ W.heap.size) : Stand R L D B w0 rec W' := by
  have hlt := block_lt_of_cell h.c
  exact ⟨by rw [hb.cell (block_lt_of_cell h.c)]; exact h.c, (World.frozen?_of_block (hb.block R hlt)).trans h.f,
    (hb.block L (Array.getElem?_eq_some_iff.1 h.l).1).trans h.l, (hb.block D (Array.getElem?_eq_some_iff.1 h.k).1).trans h.k, h.b.trans (hb.mono hB)⟩
theorem Stand.self {R L D B : Nat} {w0 : World} {rec : Loop} {W : World} (h : Stand R L D B w0 rec W) (hL : L ≠ R) (hD : D ≠ R) (hB : B ≤ R) : Stand R L D B w0 rec (W.setCell ⟨R, 0, none⟩ (.bool false)) :=
  ⟨World.cell?_setCell_same' _ _ _ (by rw [h.c]; rfl), by rw [World.frozen?_setCell]; exact h.f,
   (Below.heap_setCell W ⟨R, 0, none⟩ _ L hL).trans h.l, (Below.heap_setCell W ⟨R, 0, none⟩ _ D hD).trans h.k, h.b.setCell (p := ⟨R, 0, none⟩) hB _⟩

set_option maxHeartbeats 1000000 in
theorem range_strs {g : Operand} {ps : Array Tmp} {assign body : Code} {Q : Exit → Act → World → Prop} {a : Act} {w : World} {n : Nat} (hn : 2 ≤ n) {S P V R : Nat} (hP : P ≠ S) (hV : V ≠ S) (hRS : R ≠ S) {rest : List UInt8} (hrl : rest.length ≤ 1099511627776)
    (hg : a.eval g = .func (.func 56) #[] #[.pointer (some ⟨P, 0, none⟩), .pointer (some ⟨S, 0, none⟩), .pointer (some ⟨V, 0, none⟩)]) (hps : ps.size = 1)
    (hC : Cutter S P V rest w) (hR : w.cell? ⟨R, 0, none⟩ = some (.bool false)) (hRf : w.frozen? ⟨R, 0, none⟩ = false) {B : Nat} {w0 : World} (hB : Below B w0 w) (hBw : B ≤ w.heap.size) (hBS : B ≤ S) (hBR : B ≤ R)
    (f : List UInt8 → Bool) (a₁ : List UInt8 → Act)
    (hassign : ∀ (l : Nat) (x : List UInt8) (W : World) (K : Act → World → Prop), K (a₁ x) W →
      assign.wpIn (Fence.wide.inRound l) (n - 1 - 1) Tryd.prog (Exit.then K (fun _ _ _ => False)) { tmps := (ps.zip #[.string (str x)]).foldl (fun t (p, v) => t.setIfInBounds p v) a.tmps, defers := [] } W)
    (hbody : ∀ (l : Nat) (x : List UInt8) (W : World), x.length ≤ 1099511627776 → W.cell? ⟨R, 0, none⟩ = some (.bool false) → W.frozen? ⟨R, 0, none⟩ = false → body.wpIn (Fence.wide.inRound l) (n - 1 - 1) Tryd.prog (Left R (f x) W) (a₁ x) W)
    (hend : ∀ (D : Nat) (W : World), W.cell? ⟨R, 0, none⟩ = some (.bool false) → W.frozen? ⟨R, 0, none⟩ = false → W.heap[D]? = some (.deferred (some [])) → Below B w0 W → B ≤ D → D ≠ R →
      ((splitL rest).all f = true → Q .normal { a with defers := { target := .collected D, args := #[] } :: a.defers } W) ∧
      ((splitL rest).all f = false → Code.ret.wpIn Fence.wide n Tryd.prog Q { a with defers := { target := .collected D, args := #[] } :: a.defers } W)) :
    (Code.rangeFunc g ps assign body).wpIn Fence.wide n Tryd.prog Q a w := by
  refine wpIn_rangeFunc ?_
  intro fn hfn
  rw [show Fence.wide.round = none from rfl]
  obtain ⟨rec, hrec⟩ : ∃ rec : LoopState → Option Code → Loop, rec = fun st pe => { state := st, pending := pe, fn, tmps := a.tmps, params := ps, assign, body, defers := w.heap.size } := ⟨_, rfl⟩
  obtain ⟨W1, hW1⟩ : ∃ W1, (w.alloc (.deferred (some []))).alloc (.loop (rec .ready none)) = W1 := ⟨_, rfl⟩
  have hnew : Below w.heap.size w W1 := by
    rw [← hW1]; exact ((Below.refl _ w).alloc (Nat.le_refl _) _).alloc (by simp) _
  have hlt := hC.lt
  have hRlt := block_lt_of_cell hR
  have hst : Stand R (w.heap.size + 1) w.heap.size B w0 (rec .ready none) W1 :=
    ⟨by rw [hnew.cell hRlt]; exact hR, (World.frozen?_of_block (hnew.block R hRlt)).trans hRf,
     by rw [← hW1]; have := World.alloc_heap_new (w.alloc (.deferred (some []))) (.loop (rec .ready none)); rwa [World.size_alloc] at this,
     by rw [← hW1]; exact (Below.heap_alloc _ _ _ (by simp)).trans (World.alloc_heap_new w _),
     hB.trans (hnew.mono hBw)⟩
  have hRlt : R < w.heap.size := hRlt
  refine ⟨w.heap.size + 1, [{ target := .collected w.heap.size, args := #[] }], W1,
    { target := .fn (.func 56) #[.pointer (some ⟨P, 0, none⟩), .pointer (some ⟨S, 0, none⟩), .pointer (some ⟨V, 0, none⟩)], args := #[.func (.yield (w.heap.size + 1)) #[] #[]] }, W1, 56,
    #[.func (.yield (w.heap.size + 1)) #[] #[], .pointer (some ⟨P, 0, none⟩), .pointer (some ⟨S, 0, none⟩), .pointer (some ⟨V, 0, none⟩)], W1, ?_, ?_, ?_, ?_, fun _ => by omega, ?_⟩
  · rw [← hW1, hrec]; exact run_enterLoop_outer _ _ _ _ _
  · simp only [resolve, hg]
    simp [go_sem]
  · intro f' hf'; trivial
  · simp [invoke, go_sem]
  · refine (iter_any (n - 1) (by omega) (w.heap.size + 1) S P V hP hV rest hrl
      (fun pre W => (∀ x ∈ pre, f x = true) ∧ Stand R (w.heap.size + 1) w.heap.size B w0 (rec .ready none) W)
      (fun x W => f x = false ∧ Stand R (w.heap.size + 1) w.heap.size B w0 (rec .done (some .ret)) W)
      (fun pre W v h => ⟨h.1, h.2.set v hRS (by omega) (by omega) hBS⟩) ?_ W1 (hC.below hnew) ⟨fun x hx => (by cases hx), hst⟩).mono ?_
    · intro pre x t W hxl hj hc
      have hs := hj.2
      have hy := run_yield (P := Tryd.prog) (args := #[.string (str x)]) hs.l (by rw [hrec]; exact hps.symm)
      rw [hrec] at hy
      refine ⟨fn, _, assign, body, hy, roundIn_of_wpIn hfn (hassign _ x W _ ⟨_, run_beginRound hs.l (by rw [hrec]), ?_⟩)⟩
      obtain ⟨W2, hW2⟩ : ∃ W2, W.putObj (w.heap.size + 1) (.loop { rec .ready none with state := .busy }) = W2 := ⟨_, rfl⟩
      have hs2 : Stand R (w.heap.size + 1) w.heap.size B w0 { rec .ready none with state := .busy } W2 := by
        rw [← hW2]; exact hs.put _ (by omega) (by omega) (by omega)
      have hc2 : Cutter S P V t W2 := by
        rw [← hW2]; exact hc.blocks (World.putObj_heap_other (by omega)) (World.putObj_heap_other (by omega)) (World.putObj_heap_other (by omega))
      have hsz : w.heap.size + 1 < W2.heap.size := (Array.getElem?_eq_some_iff.1 hs2.l).1
      rw [hW2]
      refine wpIn_mono (hbody _ x W2 hxl hs2.c hs2.f) ?_
      rintro e a3 W3 hp
      cases e with
      | normal =>
        obtain ⟨hfx, hb3⟩ := hp
        have hs3 := hs2.below hb3 (by omega)
        have hend := run_endRound (P := Tryd.prog) none hs3.l
        refine ⟨_, _, hend, .inl ⟨rfl, ⟨fun y hy => ?_, ?_⟩, ?_⟩⟩
        · rcases List.mem_append.1 hy with hy | hy
          · exact hj.1 y hy
          · simp at hy; subst hy; exact hfx
        · have := hs3.put (rec .ready none) (by omega) (by omega) (by omega)
          rw [hrec] at this ⊢
          exact this
        · exact (hc2.below hb3).blocks (World.putObj_heap_other (by omega)) (World.putObj_heap_other (by omega)) (World.putObj_heap_other (by omega))
      | ret =>
        obtain ⟨hfx, W4, hb4, rfl⟩ := hp
        have hs3 := (hs2.below hb4 (by omega)).self (by omega) (by omega) hBR
        have hend := run_endRound (P := Tryd.prog) (some .ret) hs3.l
        refine ⟨_, _, hend, .inr ⟨rfl, hfx, ?_⟩⟩
        have := hs3.put (rec .done (some .ret)) (by omega) (by omega) (by omega)
        rw [hrec] at this ⊢
        exact this
      | exit id => exact hp.elim
      | goto t => exact hp.elim
      | panic ch => exact hp.elim
      | outgrown => exact hp.elim
    · rintro e W2 ⟨⟨v, rfl⟩, (⟨hall, hs⟩ | ⟨x, hx, hfx, hs⟩)⟩
      · have hend2 := run_endLoop (P := Tryd.prog) hs.l (by rw [hrec]; simp)
        have hs3 := hs.put { rec .ready none with state := .exhausted } (by omega) (by omega) (by omega)
        rw [hrec] at hend2 hs3
        exact ⟨none, _, hend2, (hend w.heap.size _ hs3.c hs3.f hs3.k hs3.b hBw (by omega)).1 (List.all_eq_true.2 hall)⟩
      · have hend2 := run_endLoop (P := Tryd.prog) hs.l (by rw [hrec]; simp)
        have hs3 := hs.put { rec .done (some .ret) with state := .exhausted } (by omega) (by omega) (by omega)
        rw [hrec] at hend2 hs3
        refine ⟨some .ret, _, hend2, (hend w.heap.size _ hs3.c hs3.f hs3.k hs3.b hBw (by omega)).2 ?_⟩
        cases ha : (splitL rest).all f with
        | false => rfl
        | true => rw [List.all_eq_true.1 ha x hx] at hfx; cases hfx
end Go.Proofs.YthedhominhgeaaaDoor
