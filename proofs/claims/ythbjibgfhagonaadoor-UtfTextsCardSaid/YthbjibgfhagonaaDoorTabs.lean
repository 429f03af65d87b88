/- What the row's condition on the program's tables gives the walks; and the contract's wrap with the condition and the world's shape. -/
import Derived.Test.YthbjibgfhagonaaDoorRows
import Derived.Test.YthbjibgfhagonaaDoorLawC
import Derived.Lib.LaidU8
import Derived.LaidMore
import Derived.Lay
import Derived.Stop.Joined
import Derived.Handed
import Derived.ProofKit
namespace Go.Proofs.YthbjibgfhagonaaDoor
open Go.ChangeShapes Go.WideShapes Go.ChangeAt Go.RowKit
set_option linter.unusedVariables false

/-- The two tables, as the rows list them. -/
def laid2 : List (String × DataW Unit) := [("unicode/utf8.acceptRanges", Rows.laid_unicode_utf8_acceptRanges), ("unicode/utf8.first", Rows.laid_unicode_utf8_first)]

theorem first_is : Rows.laid_unicode_utf8_first = Lib.tabData .u8 ((List.range 256).map fun (i : Nat) => firstT i) := by kernel_rfl
theorem cells5 : Tryd.prog.cellsOf 5 = 1 := by kernel_rfl
theorem cells61 : Tryd.prog.cellsOf 61 = 256 := by kernel_rfl
theorem cells63 : Tryd.prog.cellsOf 63 = 2 := by kernel_rfl

theorem tabs_of {W : World} (h : laidMetH Tryd.prog laid2 W) : Tabs W := by
  rw [MakeChecks.laidMetH_plain _ _ _ (by kernel_rfl)] at h
  have h3 := Lib.laidMet.reads h (n := "unicode/utf8.first") (d := Rows.laid_unicode_utf8_first) (by unfold laid2; simp)
  have h4 := Lib.laidMet.reads h (n := "unicode/utf8.acceptRanges") (d := Rows.laid_unicode_utf8_acceptRanges) (by unfold laid2; simp)
  refine ⟨fun i hi => ?_, fun i hi => ?_⟩
  · obtain ⟨g, t, cs, fuel, p, hg, hty, hvar, hd⟩ := h3
    obtain rfl := Option.some.inj ((show Tryd.prog.globalNamed "unicode/utf8.first" = some 0 by kernel_rfl).symm.trans hg)
    obtain rfl := Option.some.inj ((show (Tryd.prog.globals[0]?).map (·.type) = some 61 by kernel_rfl).symm.trans hty)
    rw [first_is] at hd
    have hcs := Lib.cells_of_tab Tryd.underlying61 Tryd.underlying5 cells5 cells61 hd
    rw [World.var?_cell hg hvar i, ← Array.getElem?_toList, hcs]
    simp [hi]
  · obtain ⟨g, t, cs, fuel, p, hg, hty, hvar, hd⟩ := h4
    obtain rfl := Option.some.inj ((show Tryd.prog.globalNamed "unicode/utf8.acceptRanges" = some 1 by kernel_rfl).symm.trans hg)
    obtain rfl := Option.some.inj ((show (Tryd.prog.globals[1]?).map (·.type) = some 64 by kernel_rfl).symm.trans hty)
    unfold Rows.laid_unicode_utf8_acceptRanges at hd
    obtain ⟨fuel', d, q, hdi, he⟩ := Lib.array_elem Tryd.underlying64 hd i (by omega)
    have hd2 : d = .agg ([accLo i, accHi i].map fun z => .lit (.int .u8 z)) := by
      have : i = 0 ∨ i = 1 ∨ i = 2 ∨ i = 3 ∨ i = 4 := by omega
      rcases this with rfl | rfl | rfl | rfl | rfl <;> exact (Option.some.inj hdi).symm
    subst hd2
    rw [cells63] at he
    have hcs := Lib.ints_of_struct Tryd.underlying63 (fun j f hj => by
      match j, hj with
      | 0, hj => simp at hj; subst hj; exact ⟨Tryd.underlying5, rfl, cells5⟩
      | 1, hj => simp at hj; subst hj; exact ⟨Tryd.underlying5, rfl, cells5⟩
      | j + 2, hj => simp at hj) (by rw [cells63]; rfl) he
    have e0 := congrArg (·[0]?) hcs
    have e1 := congrArg (·[1]?) hcs
    simp only [List.getElem?_take, List.getElem?_drop] at e0 e1
    constructor
    · rw [World.var?_cell hg hvar (i * 2), ← Array.getElem?_toList]
      simpa using e0
    · rw [World.var?_cell hg hvar (i * 2 + 1), ← Array.getElem?_toList]
      simpa using e1

theorem tab2_of {W : World} (h : W.ShapedOpen Tryd.prog) : Tab2 W := Tryd.laysM185.s1_3 W h

/-- The wrap: the condition on the tables, the world's shape. -/
theorem handed_laid {H : Type} {enc : TypeId × Value → H} {a : Assume} {C : Checked} {os : Os} {f : FuncId} {fn : Func} {s : ChangeSpec} {conds : List PathCond} {apart fresh handsOn again : Bool} {X : World → Array Value → Prop}
    (hX : ∀ (w w' : World) (args : Array Value), w.heap = w'.heap → X w args → X w' args)
    (own : ownKnob C.prog.godebug = none) (started : os.Started) (noInit : C.prog.inits.idxOf? f = none) (hfn : C.prog.funcs[f]? = some fn)
    (witness : ∃ (w : World) (tape : Tape) (i : Input), w.os = os ∧ (w.forCall tape i).Shaped C.prog ∧ i.vars = [] ∧ Input.okWide C.prog (w.forCall tape i) .any w.heap.size f i ∧
      ((s.pre enc C.prog fn conds apart (w.forCall tape i).memory i.args ∧ X (w.forCall tape i).memory i.args) ∧ sizedMet enc C.prog fn (OpenSpec.ofChange s) apart (w.forCall tape i).memory i.args) ∧ a.holds C.prog (lone (Frame.enter C.prog f i.args .normal) [] (w.forCall tape i)))
    (contract : ∀ (W : World) (base : Nat) (args : Array Value) (ds gs : List (DataW H)) (before : List MemPlace),
      (∀ (j : Nat) t v, fn.params[j]? = some t → args[j]? = some v → Value.okWide C.prog W .any base t v) →
      DataW.Whole enc C.prog fn.params.toList s.vars apart W args.toList ds gs before →
      X W args → W.ShapedOpen C.prog →
      Calls C.prog f args W fun e W' => ∃ v, e = .returned v ∧ s.post enc C.prog fn apart fresh handsOn again W args v W') :
    ReturnsInHanded a C os f .any (fun w args => (s.pre enc C.prog fn conds apart w args ∧ X w args) ∧ sizedMet enc C.prog fn (OpenSpec.ofChange s) apart w args) (s.post enc C.prog fn apart fresh handsOn again) := by
  refine returnsInHanded_of_calls own started noInit witness ?_
  intro w tape i _ hsh _ hok hpre hholds
  obtain ⟨_, _, _, fn', hfn', _, _, _, _, hval⟩ := hok
  have e : fn' = fn := Option.some.inj (hfn'.symm.trans hfn)
  subst e
  obtain ⟨⟨⟨ds, gs, before, hw, hc⟩, hx⟩, hz⟩ := hpre
  have hw' := DataW.Whole.of_heap (w' := w.forCall tape i) (by rfl) hw
  refine (contract (w.forCall tape i) w.heap.size i.args ds gs before hval hw' (hX _ _ _ (by rfl) hx) hsh).mono fun e W' ⟨v, he, hp⟩ => ?_
  subst he
  exact ChangeSpec.post_blind hp

theorem own : ownKnob Tryd.prog.godebug = none := by kernel_rfl

/-- An argument's signs, out of what the reading gives. -/
theorem runes_of_cells {w : World} {x : Addr} {len cap : Nat} {zs : List Int} (hl : len ≤ cap) (hm : cap ≤ maxLen) (hz : zs.length = cap)
    (hcell : ∀ i, i < zs.length → w.cell? (x.add i) = some (.int .i32 (zs.getD i 0))) (hwz : ∀ n ∈ zs, (Lit.int .i32 n).wf = true) :
    ∃ rs : List Int, rs.length = len ∧ len ≤ maxLen ∧ Runes w (some x) rs ∧ ∀ (i : Nat) r, rs[i]? = some r → -2147483648 ≤ r ∧ r ≤ 2147483647 := by
  refine ⟨zs.take len, by simp; omega, by omega, ?_, fun i r hi => ?_⟩
  · by_cases h0 : len = 0
    · subst h0; exact .inl (by simp)
    · obtain ⟨b, o, spot⟩ := x
      have hc := hcell 0 (by omega)
      have hspot : spot = none := by simpa [Addr.add] using World.cell?_spot hc
      subst hspot
      refine .inr ⟨b, o, rfl, fun i r hi => ?_⟩
      have hil : i < len := by
        rcases Nat.lt_or_ge i len with h | h
        · exact h
        · rw [List.getElem?_eq_none (by simp; omega)] at hi; simp at hi
      rw [List.getElem?_take, if_pos hil] at hi
      rw [← plain_add, hcell i (by omega), List.getD_eq_getElem?_getD, hi]; rfl
  · have hm' : r ∈ zs := List.mem_of_mem_take (List.mem_of_getElem? hi)
    have hw := hwz r hm'
    have e1 : IntKind.i32.min = -2147483648 := rfl
    have e2 : IntKind.i32.max = 2147483647 := rfl
    simp [Lit.wf] at hw
    omega
theorem lawC (rs : List Int) (a : Option Addr) (n cap : Nat) (cut : Int) (w : World) (hl : rs.length = n) (hn : n ≤ 9223372036854775807) (hcut : -9223372036854775808 ≤ cut ∧ cut ≤ 9223372036854775807) (hr : ∀ (i : Nat) r, rs[i]? = some r → -2147483648 ≤ r ∧ r ≤ 2147483647)
    (hb : Runes w a rs) (hT : Tabs w) (hT2 : Tab2 w) :
    Calls Tryd.prog 3 #[.slice a n cap, .int .i64 cut] w fun e w' => e = .returned (.bool true) ∧ Below w.heap.size w w' := by
  by_cases h : 200 < n
  · exact cuts_long a n cap cut w h hn hT hT2
  · exact cuts_walk a n cap rs cut w hl (by omega) hr hcut hb hT hT2
end Go.Proofs.YthbjibgfhagonaaDoor
