/- Laws for arrays that a function keeps as blocks of its own: laid, loaded whole, stored whole, boxed, the world behind each an abstract one. -/
import Derived.WalkKit
import Derived.Test.YtegfacepnklbjaaFuns
import Derived.Deep.OwnRows
import Derived.Deep.Draws
import Derived.Laws.CopyOwn
import Derived.WalkSmall
namespace Go.Proofs.Ytegfacepnklbjaa
open Go.RowKit

/-- n cells, cell i holding f i. -/
def arr (n : Nat) (f : Nat → Value) : Array Value := ((List.range n).map f).toArray
theorem arr_size (n : Nat) (f : Nat → Value) : (arr n f).size = n := by simp [arr]
theorem arr_get (n : Nat) (f : Nat → Value) (i : Nat) (h : i < n) : (arr n f)[i]? = some (f i) := by simp [arr, h]
theorem arr_of (cs : Array Value) (f : Nat → Value) (n : Nat) (hn : cs.size = n) (h : ∀ i, i < n → cs[i]? = some (f i)) : cs = arr n f := by
  apply Array.ext_getElem?
  intro i
  by_cases hi : i < n
  · rw [h i hi, arr_get n f i hi]
  · rw [Array.getElem?_eq_none (by omega), Array.getElem?_eq_none (by rw [arr_size]; omega)]
theorem arr_congr {n : Nat} {f g : Nat → Value} (h : ∀ i, i < n → f i = g i) : arr n f = arr n g :=
  arr_of _ _ n (arr_size n f) fun i hi => by rw [arr_get n f i hi, h i hi]
theorem arr_one (n : Nat) (f : Nat → Value) (h : ∀ i, i < n → (f i).oneCell' = true) : (arr n f).all (·.oneCell') = true := by
  rw [Array.all_eq_true]
  intro i hi
  have hi' : i < n := by rwa [arr_size] at hi
  have := arr_get n f i hi'
  rw [Array.getElem?_eq_getElem hi, Option.some.injEq] at this
  rw [this]; exact h i hi'

theorem rowIs_grown {w w1 : World} {g b t n : Nat} {f : Nat → Value} (h : w.rowIs b t n f) (hg : w.grownBy w1 (some g)) (hne : b ≠ g) : w1.rowIs b t n f :=
  h.of_block (hg.block b h.lt (fun e => hne (by injection e)))
theorem rowIs_below {w w1 : World} {B b t n : Nat} {f : Nat → Value} (h : w.rowIs b t n f) (hb : Below B w w1) (hlt : b < B) : w1.rowIs b t n f :=
  h.of_block (hb.block b hlt)

section
variable {P : Program} {ops : Array Oper} {rest : List Oper} {o : Oper} {a : Act} {w : World} {Q : Exit → Act → World → Prop}

/-- 'var x [n]T': a new block of n zero values. -/
theorem wpList_alloc_arr (hgd : o.guard = none) (ty : TypeId) (n : Nat) (z : Value) (ho : o.op = .alloc ty)
    (hz : (P.info? ty).map (·.zero) = some (some (.agg (arr n fun _ => z))))
    (h : ∀ w1 : World, Hid (w1.heap.size = w.heap.size + 1) → w1.rowIs w.heap.size ty n (fun _ => z) → Below w.heap.size w w1 → wpList P ops Q rest (a.put o.dst (.pointer (some ⟨w.heap.size, 0, none⟩))) w1) :
    wpList P ops Q (o :: rest) a w :=
  wpList_plain hgd fun _ hK => by
    have hrun : (Instr.alloc ty true (.tuple #[])).run P w = .ok (.pointer (some ⟨w.heap.size, 0, none⟩)) (w.alloc (.cells (arr n fun _ => z) ty)) := by
      cases hi : P.info? ty with
      | none => simp [hi] at hz
      | some i =>
        have hz' : i.zero = some (.agg (arr n fun _ => z)) := by simpa [hi] using hz
        simp [Instr.alloc, zeroValue, typeInfo, hi, hz', newVar, newRow, Value.cells]
    unfold Oper.wp execOp
    simp only [ho, Sem.run_bind, hrun, Result.andThen_ok]
    refine hK _ _ (h _ (World.size_alloc _ _) ?_ ((Below.refl _ _).alloc (Nat.le_refl _) _))
    have := World.rowIs_alloc w (arr n fun _ => z) ty (fun _ => z) (fun i hi => arr_get n _ i (by rwa [arr_size] at hi))
    rwa [arr_size] at this

/-- 'var x T': a new block of T's zero. -/
theorem wpList_alloc_row (hgd : o.guard = none) (ty : TypeId) (n : Nat) (f : Nat → Value) (ho : o.op = .alloc ty)
    (hz : (P.info? ty).map (·.zero) = some (some (.agg (arr n f))))
    (h : ∀ w1 : World, Hid (w1.heap.size = w.heap.size + 1) → w1.rowIs w.heap.size ty n f → Below w.heap.size w w1 → wpList P ops Q rest (a.put o.dst (.pointer (some ⟨w.heap.size, 0, none⟩))) w1) :
    wpList P ops Q (o :: rest) a w :=
  wpList_plain hgd fun _ hK => by
    have hrun : (Instr.alloc ty true (.tuple #[])).run P w = .ok (.pointer (some ⟨w.heap.size, 0, none⟩)) (w.alloc (.cells (arr n f) ty)) := by
      cases hi : P.info? ty with
      | none => simp [hi] at hz
      | some i =>
        have hz' : i.zero = some (.agg (arr n f)) := by simpa [hi] using hz
        simp [Instr.alloc, zeroValue, typeInfo, hi, hz', newVar, newRow, Value.cells]
    unfold Oper.wp execOp
    simp only [ho, Sem.run_bind, hrun, Result.andThen_ok]
    refine hK _ _ (h _ (World.size_alloc _ _) ?_ ((Below.refl _ _).alloc (Nat.le_refl _) _))
    have := World.rowIs_alloc w (arr n f) ty f (fun i hi => arr_get n _ i (by rwa [arr_size] at hi))
    rwa [arr_size] at this

/-- A whole array is loaded. -/
theorem wpList_load_arr (hgd : o.guard = none) (ty : TypeId) (x : Operand) (ho : o.op = .load ty x) (g n : Nat) (f : Nat → Value) (t : TypeId) (d : TypeDesc)
    (hx : a.eval x = .pointer (some ⟨g, 0, none⟩)) (hr : w.rowIs g t n f) (hu : P.underlying ty = some d)
    (hd : (match d with | .struct _ | .array _ _ => true | _ => false) = true) (hi : (P.info? ty).map (·.size) = some n)
    (h : wpList P ops Q rest (a.put o.dst (.agg (arr n f))) w) : wpList P ops Q (o :: rest) a w := by
  obtain ⟨c, hb, hn, hc⟩ := hr
  have e := arr_of c f n hn hc
  subst e
  exact wpList_load_row hgd ty x ho g hx t _ (0, 0) d hb hu hd (by rw [hi, arr_size]) h

/-- A whole array is stored. -/
theorem wpList_store_arr (hgd : o.guard = none) (ty : TypeId) (x y : Operand) (ho : o.op = .store ty x y) (g n : Nat) (f f' : Nat → Value) (t : TypeId)
    (hx : a.eval x = .pointer (some ⟨g, 0, none⟩)) (hy : a.eval y = .agg (arr n f')) (hr : w.rowIs g t n f)
    (hi : (P.info? ty).map (·.size) = some n) (h1 : ∀ i, i < n → (f' i).oneCell' = true)
    (h : ∀ w1 : World, Hid (w1.heap.size = w.heap.size) → w1.rowIs g t n f' → w.grownBy w1 (some g) → wpList P ops Q rest (a.put o.dst undef) w1) :
    wpList P ops Q (o :: rest) a w := by
  obtain ⟨c, hb, hn, hc⟩ := hr
  refine wpList_store_row hgd ty x y ho g (arr n f') hx hy t c hb (by rw [hi, arr_size]) (by rw [hn, arr_size]) (arr_one n f' h1) ?_
  refine h _ (setRow_size _ _ _) ⟨_, setRow_heap w g c _ t _ hb, arr_size n f', fun i hi => arr_get n f' i hi⟩ ⟨rfl, rfl, rfl, by simp, fun k _ hk => setRow_other w g k _ (fun e => hk (by rw [e]))⟩

/-- An array is laid in a block of its own. -/
theorem wpList_box_arr (hgd : o.guard = none) (ty : TypeId) (x : Operand) (ho : o.op = .box ty x) (n : Nat) (f : Nat → Value) (hx : a.eval x = .agg (arr n f))
    (h : ∀ w1 : World, Hid (w1.heap.size = w.heap.size + 1) → w1.rowIs w.heap.size ty n f → Below w.heap.size w w1 → wpList P ops Q rest (a.put o.dst (.pointer (some ⟨w.heap.size, 0, none⟩))) w1) :
    wpList P ops Q (o :: rest) a w :=
  wpList_plain hgd fun _ hK => by
    have hrun : (Instr.box ty (.agg (arr n f))).run P w = .ok (.pointer (some ⟨w.heap.size, 0, none⟩)) (w.alloc (.cells (arr n f) ty)) := by
      simp [Instr.box, newVar, newRow, Value.cells]
    unfold Oper.wp execOp
    simp only [ho, hx, Sem.run_bind, hrun, Result.andThen_ok]
    refine hK _ _ (h _ (World.size_alloc _ _) ?_ ((Below.refl _ _).alloc (Nat.le_refl _) _))
    have := World.rowIs_alloc w (arr n f) ty f (fun i hi => arr_get n _ i (by rwa [arr_size] at hi))
    rwa [arr_size] at this

/-- A composite literal, its cells told by one closed fact. -/
theorem wpList_build_as (hgd : o.guard = none) (t : TypeId) (parts : Array (Nat × Operand)) (ho : o.op = .build t parts) (l : List (Nat × Value)) (hl : (parts.map fun (i, x) => (i, a.eval x)).toList = l) (cells : Array Value)
    (hf : P.built t l = some cells)
    (h : wpList P ops Q rest (a.put o.dst (.agg cells)) w) : wpList P ops Q (o :: rest) a w := by
  refine wpList_build hgd t parts ho (by rw [hl, hf]; rfl) ?_
  rw [hl, hf]
  exact h
end
end Go.Proofs.Ytegfacepnklbjaa
