/- What the row's condition and the world's shape give the walks; and the contract's wrap with both. -/
import Derived.Test.YthedhominhgeaaaDoorRows
import Derived.Test.YthedhominhgeaaaDoorAlive
import Derived.LaidMore
import Derived.Lay
import Derived.Stop.Joined
import Derived.Handed
import Derived.ProofKit
namespace Go.Proofs.YthedhominhgeaaaDoor
open Go.ChangeShapes Go.WideShapes Go.ChangeAt Go.RowKit
set_option linter.unusedVariables false

/-- The two tables, as the rows list them: no walk reads them. -/
def laid2 : List (String × DataW Unit) := [("unicode/utf8.acceptRanges", Rows.laid_unicode_utf8_acceptRanges), ("unicode/utf8.first", Rows.laid_unicode_utf8_first)]
def Tabs (W : World) : Prop := W.heap.size = W.heap.size
theorem tabs_of {W : World} (h : laidMetH Tryd.prog laid2 W) : Tabs W := rfl
/-- The library's number of bytes that its assembly searches for: whatever it is. -/
def Tab2 (W : World) : Prop := ∃ m, W.cell? ⟨2, 0, none⟩ = some (.int .i64 m)
theorem tab2_of {W : World} (h : W.ShapedOpen Tryd.prog) : Tab2 W := Tryd.laysM146.s1_3 W h
theorem Tab2.below {W W' : World} (h : Tab2 W) (hb : Below W.heap.size W W') : Tab2 W' := by
  obtain ⟨m, hm⟩ := h
  exact ⟨m, by rw [hb.cell (block_lt_of_cell hm)]; exact hm⟩

/-- The wrap: the condition on the tables, the world's shape. -/
theorem handed_laid {H : Type} {enc : TypeId × Value → H} {a : Assume} {C : Checked} {os : Os} {f : FuncId} {fn : Func} {s : ChangeSpec} {conds : List PathCond} {apart fresh handsOn again : Bool} {X : World → Array Value → Prop}
    (hX : ∀ (w w' : World) (args : Array Value), w.heap = w'.heap → X w args → X w' args)
    (own : ownKnob C.prog.godebug = none) (started : os.Started) (noInit : C.prog.inits.idxOf? f = none) (hfn : C.prog.funcs[f]? = some fn)
    (witness : ∃ (w : World) (tape : Tape) (i : Input), w.os = os ∧ (w.forCall tape i).Shaped C.prog ∧ i.vars = [] ∧ Input.okWide C.prog (w.forCall tape i) .any w.heap.size f i ∧
      ((s.pre enc C.prog fn conds apart (w.forCall tape i).memory i.args ∧ X (w.forCall tape i).memory i.args) ∧ sizedMet enc C.prog fn (OpenSpec.ofChange s) apart (w.forCall tape i).memory i.args) ∧ a.holds C.prog (lone (Frame.enter C.prog f i.args .normal) [] (w.forCall tape i)))
    (contract : ∀ (W : World) (base : Nat) (args : Array Value) (ds gs : List (DataW H)) (before : List MemPlace),
      (∀ (j : Nat) t v, fn.params[j]? = some t → args[j]? = some v → Value.okWide C.prog W .any base t v) →
      DataW.Whole enc C.prog fn.params.toList s.vars apart W args.toList ds gs before →
      X W args → W.ShapedOpen C.prog →
      Calls C.prog f args W fun e W' => ∃ v, e = .returned v ∧ s.post enc C.prog fn apart fresh handsOn again W args v W') :
    ReturnsInHanded a C os f .any (fun w args => (s.pre enc C.prog fn conds apart w args ∧ X w args) ∧ sizedMet enc C.prog fn (OpenSpec.ofChange s) apart w args) (s.post enc C.prog fn apart fresh handsOn again) := by
  refine returnsInHanded_of_calls own started noInit witness ?_
  intro w tape i _ hsh _ hok hpre hholds
  obtain ⟨_, _, _, fn', hfn', _, _, _, _, hval⟩ := hok
  have e : fn' = fn := Option.some.inj (hfn'.symm.trans hfn)
  subst e
  obtain ⟨⟨⟨ds, gs, before, hw, hc⟩, hx⟩, hz⟩ := hpre
  have hw' := DataW.Whole.of_heap (w' := w.forCall tape i) (by rfl) hw
  refine (contract (w.forCall tape i) w.heap.size i.args ds gs before hval hw' (hX _ _ _ (by rfl) hx) hsh).mono fun e W' ⟨v, he, hp⟩ => ?_
  subst he
  exact ChangeSpec.post_blind hp
theorem own : ownKnob Tryd.prog.godebug = none := by kernel_rfl
end Go.Proofs.YthedhominhgeaaaDoor
