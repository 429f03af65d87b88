/- All places of one or two bytes replaced by one byte: what the call computes, for all bytes. -/
import Derived.Test.YthbjibgfhagonaaDoorCnt
import Derived.Laws.CopyOwn
import Derived.Deep.RegionLaw
import Derived.Deep.OwnRows
namespace Go.Proofs.YthbjibgfhagonaaDoor
open Go.RowKit
set_option linter.unusedVariables false

theorem replace_none (a : Option Addr) (n cap : Nat) (bs old : List UInt8) (b2 o2 d c2 : Nat) (v3 : Value) (c3 : Option Addr) (k3 : Nat) (w : World) (hl : bs.length = n) (hd : old.length = d) (hd1 : d = 1 ∨ d = 2) (hn : n ≤ 1000000) (hcap : n ≤ cap) (hnil : a = none → n = 0 ∧ cap = 0)
    (hb : Bytes w a bs) (ho : ∀ i c, old[i]? = some c → w.cell? ⟨b2, o2 + i, none⟩ = some (.int .u8 (byt c))) (hT : Tab2 w) (h0 : Lib.count bs old = 0) :
    Calls Tryd.prog 46 #[.slice a n cap, .slice (some ⟨b2, o2, none⟩) d c2, .slice c3 1 k3, .int .i64 (-1)] w fun e w' => ∃ v, e = .returned v ∧ OwnB w' w.heap.size 5 v bs ∧ Below w.heap.size w w' := by
  have hC := count_any a n cap bs old b2 o2 d c2 w hl hd hd1 hn hcap hnil hb ho hT
  rw [h0, show ((0 : Nat) : Int) = 0 from rfl] at hC
  have HC := Lib.hid hC; have HL := Lib.hid hl; have HB := Lib.hid hb; have HN := Lib.hid hnil
  clear hC hl hb hnil ho h0 hT hd hd1
  go_enter Tryd.func46, Tryd.ntmps46
  go_wp2_with (first
    | (go_at_call 49; refine HC.out.mono ?_; rintro e w1 ⟨rfl, hb1⟩)
    | (at_builtin; refine wpList_append_bytes rfl (.const (.slice none 0 0)) (.tmp 24) 24 5 rfl Tryd.underlying24 info5 w1.heap.size _ [] bs a n cap rfl (OwnB.nil w1 w1.heap.size 5) rfl HL.out ?c1 ?c2 ?c3 ?c4 ?_))
  case c1 => exact HB.out.below hb1
  case c2 => exact fun h => (HN.out h).2
  case c3 => rw [HL.out]; simp; omega
  case c4 => exact Nat.le_refl _
  rintro v w2 hO hg hb2
  obtain ⟨ao, c4, hv⟩ := hO.form'
  subst hv
  have HO := Lib.hid hO
  clear hO hg
  go_wp2_with fail
  go_ret
  refine ⟨_, rfl, ?_, ?_⟩
  · simpa using HO.out.mono hb1.size
  · exact hb1.trans (hb2.mono hb1.size)

theorem size5 : (Tryd.prog.info? 5).map (·.size) = some 1 := by kernel_rfl
theorem heap_alloc (w : World) (o : Obj) : (w.alloc o).heap[w.heap.size]? = some o := by
  show (w.heap.push o)[w.heap.size]? = some o
  simp
theorem cell_row {w : World} {g : Nat} {cur : Array Value} {t : TypeId} {m : Nat × Nat} (h : w.heap[g]? = some (.cells cur t m)) (i : Nat) : w.cell? ⟨g, i, none⟩ = cur[i]? := by simp [World.cell?, h]
theorem bval_one (bs : List UInt8) : ∀ v ∈ bs.map bval, v.oneCell' = true := fun v hv => by
  obtain ⟨c, _, rfl⟩ := List.mem_map.1 hv; rfl
theorem src_cells {w : World} {b o : Nat} {cs : List UInt8} (h : ∀ i c, cs[i]? = some c → w.cell? ⟨b, o + i, none⟩ = some (.int .u8 (byt c))) : ∀ j v, (cs.map bval)[j]? = some v → w.cell? ((⟨b, o, none⟩ : Addr).add j) = some v := fun j v hv => by
  rw [List.getElem?_map] at hv
  cases hc : cs[j]? with
  | none => rw [hc] at hv; simp at hv
  | some c =>
    rw [hc] at hv
    have : bval c = v := by simpa using hv
    rw [plain_add, ← this]; exact h j c hc
theorem heap_at {w w' : World} {g : Nat} {x : Obj} (h : w.heap[g]? = some x) (hb : Below w.heap.size w w') : w'.heap[g]? = some x := by
  rw [hb.block g (Array.getElem?_eq_some_iff.1 h).1]; exact h
/-- What is written so far, and what is laid behind it. -/
theorem splice_take (cur : List Value) (out xs : List UInt8) (p : Nat) (hp : out.length = p) (hc : cur.take p = out.map bval) (hfit : p + xs.length ≤ cur.length) : (splice cur p (xs.map bval)).take (p + xs.length) = (out ++ xs).map bval := by
  unfold splice
  rw [hc, ← List.append_assoc, List.take_append_of_le_length (by simp; omega), List.take_of_length_le (by simp; omega), List.map_append]

set_option maxHeartbeats 2000000 in
set_option maxRecDepth 100000 in
theorem replace_1 (b o n cap : Nat) (bs old : List UInt8) (b2 o2 c2 : Nat) (nc : UInt8) (b3 o3 k3 : Nat) (w : World) (hl : bs.length = n) (hd : old.length = 1) (hn : n ≤ 1000000) (hcap : n ≤ cap)
    (hb : ∀ i c, bs[i]? = some c → w.cell? ⟨b, o + i, none⟩ = some (.int .u8 (byt c))) (ho : ∀ i c, old[i]? = some c → w.cell? ⟨b2, o2 + i, none⟩ = some (.int .u8 (byt c)))
    (hnew : w.cell? ⟨b3, o3, none⟩ = some (.int .u8 (byt nc))) (hT : Tab2 w) (M : Nat) (h0 : Lib.count bs old = M) (hM : 0 < M) :
    Calls Tryd.prog 46 #[.slice (some ⟨b, o, none⟩) n cap, .slice (some ⟨b2, o2, none⟩) 1 c2, .slice (some ⟨b3, o3, none⟩) 1 k3, .int .i64 (-1)] w fun e w' => ∃ g' n' cap', e = .returned (.slice (some ⟨g', 0, none⟩) n' cap') ∧ n' ≤ cap' ∧ (repAll old nc bs).length = n' ∧ Bytes w' (some ⟨g', 0, none⟩) (repAll old nc bs) ∧ Below w.heap.size w w' := by
  have hC := count_any (some ⟨b, o, none⟩) n cap bs old b2 o2 1 c2 w hl hd (by omega) hn hcap (fun h => by simp at h) (.inr ⟨b, o, rfl, hb⟩) ho hT
  rw [h0] at hC
  have hne : old ≠ [] := by intro h; rw [h] at hd; simp at hd
  obtain ⟨res, hres⟩ : ∃ res, res = repAll old nc bs := ⟨_, rfl⟩
  rw [← hres]
  have hlen : res.length + M * 1 = n + M := by rw [hres, ← hl, ← hd, ← h0]; exact rep_len hne _ _ rfl
  have hcm : M * 1 ≤ n := by rw [← hl, ← hd, ← h0]; exact count_mul_le old hne bs
  have hA : Hid (res = [] ++ rep old nc M (bs.drop 0)) := by rw [hres]; unfold repAll Hid; rw [h0]; rfl
  have hA0 : Hid (Lib.count (bs.drop 0) old = M) := h0
  obtain ⟨N, hN⟩ : ∃ N, N = res.length := ⟨_, rfl⟩
  rw [← hN] at hlen
  have eM : ((M : Int) == 0) = false := by rw [beq_eq_false_iff_ne]; omega
  have HC := Lib.hid hC; have HL := Lib.hid hl; have HB := Lib.hid hb; have HO := Lib.hid ho; have HNW := Lib.hid hnew; have HT := Lib.hid hT; have HNE := Lib.hid hne
  have HN := Lib.hid hN; have HD := Lib.hid hd
  clear hC hl hb ho h0 hT hres hN hnew hne hd
  have l1 : N ≤ n := by omega
  have l2 : n ≤ N := by omega
  have l3 : M ≤ n := by omega
  clear hlen hcm
  have hmk : ∀ w : World, (Instr.makeSlice 24 (.int .i64 (n : Int)) (.int .i64 (n : Int))).run Tryd.prog w = .ok (.slice (some ⟨w.heap.size, 0, none⟩) N N) (w.alloc (.cells (madeCells #[.int .u8 0] N) 5)) := by
    rw [show n = N by omega]
    exact run_make_row' (P := Tryd.prog) 24 5 (.int .u8 0) 1 Tryd.underlying24 info5 rfl .i64 .i64 N (by omega) (by omega)
  go_enter Tryd.func46, Tryd.ntmps46
  go_wp2_with (go_at_call 49; refine HC.out.mono ?_; rintro e w1 ⟨rfl, hb1⟩)
  have hbg : Below w.heap.size w (w1.alloc (.cells (madeCells #[.int .u8 0] N) 5)) := hb1.alloc hb1.size _
  have hG0 : Hid ((w1.alloc (.cells (madeCells #[.int .u8 0] N) 5)).heap[w1.heap.size]? = some (.cells (List.replicate N (.int .u8 0)).toArray 5 (0, 0))) := by
    unfold Hid
    rw [← toList_madeCells_one, Array.toArray_toList]
    exact heap_alloc _ _
  obtain ⟨g, hg⟩ : ∃ g, g = w1.heap.size := ⟨_, rfl⟩
  have hgs : w.heap.size ≤ g := by rw [hg]; exact hb1.size
  rw [← hg] at hG0 ⊢
  clear hg
  have HBG := Lib.hid hbg
  clear hbg hmk
  go_loopw [11, 12, 13, 49] (fun wd st j q wr => ∃ (r k p c : Nat) (out : List UInt8) (cur : List Value), wd = .int .i64 p ∧ st = .int .i64 k ∧ q = .int .i64 c ∧ c + r = M ∧ k ≤ n ∧ out.length = p ∧ cur.length = N ∧
      Hid (Lib.count (bs.drop k) old = r) ∧ Hid (res = out ++ rep old nc r (bs.drop k)) ∧ Hid (wr.heap[g]? = some (.cells cur.toArray 5 (0, 0))) ∧ Hid (cur.take p = out.map bval) ∧ Below w.heap.size w wr) (fun _ _ _ q _ => M - (intOf q).toNat)
  case atStart => exact ⟨M, 0, 0, 0, [], List.replicate N (.int .u8 0), rfl, rfl, rfl, by omega, by omega, rfl, List.length_replicate, hA0, hA, hG0, Lib.hid rfl, HBG.out⟩
  case round =>
    clear hA hA0 hG0 HBG HC
    obtain ⟨r, k, p, c, out, cur, rfl, rfl, rfl, hcr, hk, hout, hcur, HCR, HRES, HG, HTK, hbw⟩ := hrel
    cases r with
    | succ r =>
      obtain ⟨i, hi, hr1, hr2⟩ := count_pos HNE.out HCR.out
      rw [List.length_drop, HL.out, HD.out] at hr1
      rw [List.drop_drop, HD.out] at hr2
      have hs := rep_succ (c := nc) (r := r) hi
      rw [List.drop_drop, HD.out] at hs
      have hI := index_at ⟨b, o + k, none⟩ (n - k) (cap - k) (bs.drop k) old b2 o2 1 c2 wr (by rw [List.length_drop, HL.out]) HD.out (by omega) (by omega) (by omega) (fun j x hj => by
        rw [List.getElem?_drop] at hj
        rw [plain_add, Nat.add_assoc]
        have h1 := HB.out (k + j) x hj
        rw [hbw.cell (block_lt_of_cell h1)]; exact h1) (fun j x hj => by
        have h1 := HO.out j x hj
        rw [hbw.cell (block_lt_of_cell h1)]; exact h1) (HT.out.below hbw)
      rw [hi] at hI
      have HRES2 : Hid (res = (out ++ ((bs.drop k).take i ++ [nc])) ++ rep old nc r (bs.drop (k + (i + 1)))) := by
        unfold Hid
        rw [HRES.out, hs]; simp
      have hl1 : ((bs.drop k).take i).length = i := by rw [List.length_take, List.length_drop, HL.out]; omega
      have hN2 : p + i + 1 ≤ N := by
        rw [HN.out, HRES2.out]
        simp only [List.length_append, hl1, hout, List.length_cons, List.length_nil]; omega
      obtain ⟨J, hJ⟩ : ∃ J, J = k + i := ⟨_, rfl⟩
      have eJ : (k : Int) + (i : Int) = (J : Int) := by omega
      obtain ⟨P, hP⟩ : ∃ P, P = p + i := ⟨_, rfl⟩
      have eP : (p : Int) + (i : Int) = (P : Int) := by omega
      obtain ⟨X, hX⟩ : ∃ X, X = ((bs.drop k).take i).map bval := ⟨_, rfl⟩
      have hXl : X.length = i := by rw [hX, List.length_map, hl1]
      have hJn : J ≤ n := by omega
      have hJk : k ≤ J := by omega
      have hJd : J + 1 ≤ n := by omega
      have hPN : P + 1 ≤ N := by omega
      have q1 : p ≤ N := by omega
      have q2 : ¬ (N = p) := by omega
      have q3 : J ≤ cap := by omega
      have q4 : ¬ (cap = k) := by omega
      have q5 : P ≤ N := by omega
      have q6 : ¬ (N = P) := by omega
      have HJ := Lib.hid hJ; have HP := Lib.hid hP
      clear hJ hP
      have HI := Lib.hid hI; have HX := Lib.hid hX; have HC2 := Lib.hid hr2
      have hkn : k < n := by omega
      clear hI hi hs hX hr2 HCR HRES hl1
      go_wp2_with (go_at_call 50; refine HI.out.mono ?_; rintro e w2 ⟨rfl, hb2⟩)
      have hbw2 := hbw.trans (hb2.mono hbw.size)
      have HG2 := Lib.hid (heap_at HG.out hb2)
      clear HG HI hb2 hbw
      have f1 : Hid (X.length = Nat.min (J - k) (N - p)) := by
        show X.length = Nat.min (J - k) (N - p)
        rw [hXl]; have := HJ.out; show i = min (J - k) (N - p); omega
      have f2 : Hid (0 < X.length → (some ⟨g, p, none⟩ : Option Addr) = some ⟨g, p, none⟩ ∧ ∃ ad, (some ⟨b, o + k, none⟩ : Option Addr) = some ad ∧ ∀ j v, X[j]? = some v → w2.drew.cell? (ad.add j) = some v) := fun _ => ⟨rfl, _, rfl, by
          rw [HX.out]
          refine src_cells fun j x hj => ?_
          rw [List.getElem?_take] at hj
          split at hj
          · rw [List.getElem?_drop] at hj
            have h1 := HB.out _ x hj
            rw [Nat.add_assoc, (Below.drew hbw2).cell (block_lt_of_cell h1)]; exact h1
          · simp at hj⟩
      have f3 : Hid (p + X.length ≤ cur.length) := by show p + X.length ≤ cur.length; rw [hXl, hcur]; omega
      have f4 : Hid (∀ v ∈ X, v.oneCell' = true) := by show ∀ v ∈ X, v.oneCell' = true; rw [HX.out]; exact bval_one _
      have f5 : Hid (Below w.heap.size w w2.drew) := Below.drew hbw2
      go_region_law (refine step_copy_splice rfl (.tmp 61) (.tmp 65) 24 24 rfl 5 Tryd.underlying24 size5 (some ⟨g, p, none⟩) (some ⟨b, o + k, none⟩) (N - p) (N - p) (J - k) (cap - k) (by go_simp) (by go_simp) g p cur 5 HG2.out X f1.out f2.out f3.out f4.out w.heap.size w f5.out hgs ?_; intro w3 HG3 hb3)
      have HK := Lib.hid hb3
      have f6 : Hid (0 < [bval nc].length → (some ⟨g, P, none⟩ : Option Addr) = some ⟨g, P, none⟩ ∧ ∃ ad, (some ⟨b3, o3, none⟩ : Option Addr) = some ad ∧ ∀ j v, [bval nc][j]? = some v → w3.cell? (ad.add j) = some v) := fun _ => ⟨rfl, _, rfl, by
          have h1 := HNW.out
          have h2 : w3.cell? ⟨b3, o3, none⟩ = some (bval nc) := by rw [hb3.cell (block_lt_of_cell h1)]; exact h1
          intro j v hv
          cases j with
          | zero =>
            have : bval nc = v := by simpa using hv
            rw [plain_add, ← this]; exact h2
          | succ j => simp at hv⟩
      have f7 : Hid (P + [bval nc].length ≤ (splice cur p X).length) := by
        show P + 1 ≤ (splice cur p X).length
        rw [length_splice _ _ _ f3.out, hcur]; omega
      have f8 : Hid (∀ v ∈ [bval nc], v.oneCell' = true) := bval_one [nc]
      have f9 : Hid ([bval nc].length = Nat.min 1 (N - P)) := by show 1 = min 1 (N - P); omega
      go_wp2_with (with_reducible refine wpList_copy_splice rfl (.tmp 71) (.tmp 72) 24 24 rfl 5 Tryd.underlying24 size5 (some ⟨g, P, none⟩) (some ⟨b3, o3, none⟩) (N - P) (N - P) 1 k3 (by go_simp) (by go_simp) g P (splice cur p X) 5 HG3.out [bval nc] f9.out f6.out f7.out f8.out w.heap.size w HK.out hgs ?_; intro w4 HG4 hb4)
      have HK4 := Lib.hid hb4
      go_roundw
      case rel =>
        have hl1 : ((bs.drop k).take i).length = i := by have := HX.out; rw [this] at hXl; simpa using hXl
        have e1 : (splice cur p X).take P = (out ++ (bs.drop k).take i).map bval := by
          have := splice_take cur out ((bs.drop k).take i) p hout HTK.out (by rw [hl1, hcur]; omega)
          rw [hl1, ← HP.out, ← HX.out] at this
          exact this
        have e2 := splice_take (splice cur p X) (out ++ (bs.drop k).take i) [nc] P (by rw [List.length_append, hl1, hout, HP.out]) e1 (by rw [length_splice _ _ _ f3.out, hcur]; exact hPN)
        have e3 : J + 1 = k + (i + 1) := by rw [HJ.out]; omega
        exact ⟨r, J + 1, P + 1, c + 1, out ++ ((bs.drop k).take i ++ [nc]), splice (splice cur p X) P [bval nc], by congr 1, by congr 1, by congr 1, by omega, hJd, by simp only [List.length_append, hl1, hout, List.length_cons, List.length_nil]; rw [HP.out]; omega,
          by rw [length_splice _ _ _ f7.out, length_splice _ _ _ f3.out, hcur], by rw [e3]; exact HC2, by rw [e3]; exact HRES2, HG4, by rw [← List.append_assoc]; exact Lib.hid e2, HK4.out⟩
      case measure => simp [intOf]; omega
    | zero =>
      have HRES2 : Hid (res = out ++ bs.drop k) := by unfold Hid; rw [HRES.out, rep_zero]
      obtain ⟨m, hm⟩ : ∃ m, n = k + m := ⟨n - k, by omega⟩
      have hNp : N = p + m := by rw [HN.out, HRES2.out, List.length_append, List.length_drop, HL.out, hout]; omega
      have hcM : c = M := by omega
      obtain ⟨X, hX⟩ : ∃ X, X = (bs.drop k).map bval := ⟨_, rfl⟩
      have hXl : X.length = m := by rw [hX, List.length_map, List.length_drop, HL.out]; omega
      have HX := Lib.hid hX
      have hfin : ∀ w', w'.heap[g]? = some (.cells (splice cur p X).toArray 5 (0, 0)) → Bytes w' (some ⟨g, 0, none⟩) res := fun w' h => by
        refine .inr ⟨g, 0, rfl, fun j x hj => ?_⟩
        rw [Nat.zero_add, cell_row h]
        have e1 := splice_take cur out (bs.drop k) p hout HTK.out (by rw [← List.length_map (f := bval), ← HX.out, hXl, hcur]; omega)
        rw [← HX.out, ← HRES2.out, List.take_of_length_le (by
          rw [length_splice _ _ _ (by rw [hXl, hcur]; omega), hcur, ← List.length_map (f := bval), ← HX.out, hXl]; omega)] at e1
        rw [e1, List.getElem?_toArray, List.getElem?_map, hj]; rfl
      have HFIN := Lib.hid hfin
      clear hfin hX HRES HCR
      subst hcM
      have f1 : Hid (X.length = Nat.min (n - k) (N - p)) := by
        show X.length = min (n - k) (N - p)
        omega
      have f2 : Hid (∀ j v, X[j]? = some v → wr.drew.cell? ((⟨b, o + k, none⟩ : Addr).add j) = some v) := by
        show ∀ j v, X[j]? = some v → wr.drew.cell? ((⟨b, o + k, none⟩ : Addr).add j) = some v
        rw [HX.out]
        refine src_cells fun j x hj => ?_
        rw [List.getElem?_drop] at hj
        have h1 := HB.out _ x hj
        rw [Nat.add_assoc, (Below.drew hbw).cell (block_lt_of_cell h1)]; exact h1
      have f3 : Hid (p + X.length ≤ cur.length) := by show p + X.length ≤ cur.length; rw [hXl, hcur]; omega
      have f4 : Hid (∀ v ∈ X, v.oneCell' = true) := by show ∀ v ∈ X, v.oneCell' = true; rw [HX.out]; exact bval_one _
      have f5 : Hid (Below w.heap.size w wr.drew) := Below.drew hbw
      have q1 : p ≤ N := by omega
      have q3 : k ≤ n := hk
      have eZ : (p : Int) + (m : Int) = (N : Int) := by omega
      have HNP := Lib.hid hNp; have HM := Lib.hid hm
      by_cases hp : N = p
      · have hm0 : m = 0 := by omega
        have hkn : k = n := by omega
        have hX0 : X = [] := List.length_eq_zero_iff.1 (by rw [hXl, hm0])
        have g1 : Hid (([] : List Value).length = Nat.min 0 0) := Lib.hid rfl
        have g3 : Hid (p + ([] : List Value).length ≤ cur.length) := by show p + 0 ≤ cur.length; omega
        have HF : Hid (∀ w', w'.heap[g]? = some (.cells (splice cur p []).toArray 5 (0, 0)) → Bytes w' (some ⟨g, 0, none⟩) res) := by rw [← hX0]; exact HFIN
        clear hm hNp HFIN f1 f2 f3 f4 HX
        subst hm0 hkn
        by_cases hq : cap = k
        · subst hq
          go_wp2
          go_region_law (refine step_copy_splice rfl (.tmp 123) (.tmp 126) 24 24 rfl 5 Tryd.underlying24 size5 (some ⟨g, 0, none⟩) (some ⟨b, o, none⟩) 0 0 0 0 (by go_simp) (by go_simp) g p cur 5 HG.out [] g1.out (fun h => absurd h (by simp)) g3.out (fun v h => absurd h (by simp)) w.heap.size w f5.out hgs ?_; intro w3 HG3 hb3)
          all_goals
            go_wp2
            go_ret
            exact ⟨g, p, _, rfl, by first | exact Nat.le_refl _ | omega, by rw [← hp]; exact HN.out.symm, HF.out _ HG3.out, hb3⟩
        · go_wp2
          go_region_law (refine step_copy_splice rfl (.tmp 123) (.tmp 126) 24 24 rfl 5 Tryd.underlying24 size5 (some ⟨g, 0, none⟩) (some ⟨b, o + k, none⟩) 0 0 0 (cap - k) (by go_simp) (by go_simp) g p cur 5 HG.out [] g1.out (fun h => absurd h (by simp)) g3.out (fun v h => absurd h (by simp)) w.heap.size w f5.out hgs ?_; intro w3 HG3 hb3)
          all_goals
            go_wp2
            go_ret
            exact ⟨g, p, _, rfl, by first | exact Nat.le_refl _ | omega, by rw [← hp]; exact HN.out.symm, HF.out _ HG3.out, hb3⟩
      · have hq : ¬ (cap = k) := by omega
        have hN0 : ¬ (N = 0) := by omega
        clear hm hNp
        go_wp2
        go_region_law (refine step_copy_splice rfl (.tmp 123) (.tmp 126) 24 24 rfl 5 Tryd.underlying24 size5 (some ⟨g, p, none⟩) (some ⟨b, o + k, none⟩) (N - p) (N - p) (n - k) (cap - k) (by go_simp) (by go_simp) g p cur 5 HG.out X f1.out (fun _ => ⟨rfl, _, rfl, f2.out⟩) f3.out f4.out w.heap.size w f5.out hgs ?_; intro w3 HG3 hb3)
        all_goals
          go_wp2
          go_ret
          exact ⟨g, N, _, rfl, by first | exact Nat.le_refl _ | omega, HN.out.symm, HFIN.out _ HG3.out, hb3⟩

set_option maxHeartbeats 2000000 in
set_option maxRecDepth 100000 in
theorem replace_2 (b o n cap : Nat) (bs old : List UInt8) (b2 o2 c2 : Nat) (nc : UInt8) (b3 o3 k3 : Nat) (w : World) (hl : bs.length = n) (hd : old.length = 2) (hn : n ≤ 1000000) (hcap : n ≤ cap)
    (hb : ∀ i c, bs[i]? = some c → w.cell? ⟨b, o + i, none⟩ = some (.int .u8 (byt c))) (ho : ∀ i c, old[i]? = some c → w.cell? ⟨b2, o2 + i, none⟩ = some (.int .u8 (byt c)))
    (hnew : w.cell? ⟨b3, o3, none⟩ = some (.int .u8 (byt nc))) (hT : Tab2 w) (M : Nat) (h0 : Lib.count bs old = M) (hM : 0 < M) :
    Calls Tryd.prog 46 #[.slice (some ⟨b, o, none⟩) n cap, .slice (some ⟨b2, o2, none⟩) 2 c2, .slice (some ⟨b3, o3, none⟩) 1 k3, .int .i64 (-1)] w fun e w' => ∃ g' n' cap', e = .returned (.slice (some ⟨g', 0, none⟩) n' cap') ∧ n' ≤ cap' ∧ (repAll old nc bs).length = n' ∧ Bytes w' (some ⟨g', 0, none⟩) (repAll old nc bs) ∧ Below w.heap.size w w' := by
  have hC := count_any (some ⟨b, o, none⟩) n cap bs old b2 o2 2 c2 w hl hd (by omega) hn hcap (fun h => by simp at h) (.inr ⟨b, o, rfl, hb⟩) ho hT
  rw [h0] at hC
  have hne : old ≠ [] := by intro h; rw [h] at hd; simp at hd
  obtain ⟨res, hres⟩ : ∃ res, res = repAll old nc bs := ⟨_, rfl⟩
  rw [← hres]
  have hlen : res.length + M * 2 = n + M := by rw [hres, ← hl, ← hd, ← h0]; exact rep_len hne _ _ rfl
  have hcm : M * 2 ≤ n := by rw [← hl, ← hd, ← h0]; exact count_mul_le old hne bs
  have hA : Hid (res = [] ++ rep old nc M (bs.drop 0)) := by rw [hres]; unfold repAll Hid; rw [h0]; rfl
  have hA0 : Hid (Lib.count (bs.drop 0) old = M) := h0
  obtain ⟨N, hN⟩ : ∃ N, N = res.length := ⟨_, rfl⟩
  rw [← hN] at hlen
  have eM : ((M : Int) == 0) = false := by rw [beq_eq_false_iff_ne]; omega
  have HC := Lib.hid hC; have HL := Lib.hid hl; have HB := Lib.hid hb; have HO := Lib.hid ho; have HNW := Lib.hid hnew; have HT := Lib.hid hT; have HNE := Lib.hid hne
  have HN := Lib.hid hN; have HD := Lib.hid hd
  clear hC hl hb ho h0 hT hres hN hnew hne hd
  have eN : (n : Int) + -(M : Int) = (N : Int) := by omega
  have hmk := run_make_row' (P := Tryd.prog) 24 5 (.int .u8 0) 1 Tryd.underlying24 info5 rfl .i64 .i64 N (by omega) (by omega)
  go_enter Tryd.func46, Tryd.ntmps46
  go_wp2_with (go_at_call 49; refine HC.out.mono ?_; rintro e w1 ⟨rfl, hb1⟩)
  have hbg : Below w.heap.size w (w1.alloc (.cells (madeCells #[.int .u8 0] N) 5)) := hb1.alloc hb1.size _
  have hG0 : Hid ((w1.alloc (.cells (madeCells #[.int .u8 0] N) 5)).heap[w1.heap.size]? = some (.cells (List.replicate N (.int .u8 0)).toArray 5 (0, 0))) := by
    unfold Hid
    rw [← toList_madeCells_one, Array.toArray_toList]
    exact heap_alloc _ _
  obtain ⟨g, hg⟩ : ∃ g, g = w1.heap.size := ⟨_, rfl⟩
  have hgs : w.heap.size ≤ g := by rw [hg]; exact hb1.size
  rw [← hg] at hG0 ⊢
  clear hg
  have HBG := Lib.hid hbg
  clear hbg hmk
  go_loopw [11, 12, 13, 49] (fun wd st j q wr => ∃ (r k p c : Nat) (out : List UInt8) (cur : List Value), wd = .int .i64 p ∧ st = .int .i64 k ∧ q = .int .i64 c ∧ c + r = M ∧ k ≤ n ∧ out.length = p ∧ cur.length = N ∧
      Hid (Lib.count (bs.drop k) old = r) ∧ Hid (res = out ++ rep old nc r (bs.drop k)) ∧ Hid (wr.heap[g]? = some (.cells cur.toArray 5 (0, 0))) ∧ Hid (cur.take p = out.map bval) ∧ Below w.heap.size w wr) (fun _ _ _ q _ => M - (intOf q).toNat)
  case atStart => exact ⟨M, 0, 0, 0, [], List.replicate N (.int .u8 0), rfl, rfl, rfl, by omega, by omega, rfl, List.length_replicate, hA0, hA, hG0, Lib.hid rfl, HBG.out⟩
  case round =>
    clear hA hA0 hG0 HBG HC
    obtain ⟨r, k, p, c, out, cur, rfl, rfl, rfl, hcr, hk, hout, hcur, HCR, HRES, HG, HTK, hbw⟩ := hrel
    cases r with
    | succ r =>
      obtain ⟨i, hi, hr1, hr2⟩ := count_pos HNE.out HCR.out
      rw [List.length_drop, HL.out, HD.out] at hr1
      rw [List.drop_drop, HD.out] at hr2
      have hs := rep_succ (c := nc) (r := r) hi
      rw [List.drop_drop, HD.out] at hs
      have hI := index_at ⟨b, o + k, none⟩ (n - k) (cap - k) (bs.drop k) old b2 o2 2 c2 wr (by rw [List.length_drop, HL.out]) HD.out (by omega) (by omega) (by omega) (fun j x hj => by
        rw [List.getElem?_drop] at hj
        rw [plain_add, Nat.add_assoc]
        have h1 := HB.out (k + j) x hj
        rw [hbw.cell (block_lt_of_cell h1)]; exact h1) (fun j x hj => by
        have h1 := HO.out j x hj
        rw [hbw.cell (block_lt_of_cell h1)]; exact h1) (HT.out.below hbw)
      rw [hi] at hI
      have HRES2 : Hid (res = (out ++ ((bs.drop k).take i ++ [nc])) ++ rep old nc r (bs.drop (k + (i + 2)))) := by
        unfold Hid
        rw [HRES.out, hs]; simp
      have hl1 : ((bs.drop k).take i).length = i := by rw [List.length_take, List.length_drop, HL.out]; omega
      have hN2 : p + i + 1 ≤ N := by
        rw [HN.out, HRES2.out]
        simp only [List.length_append, hl1, hout, List.length_cons, List.length_nil]; omega
      obtain ⟨J, hJ⟩ : ∃ J, J = k + i := ⟨_, rfl⟩
      have eJ : (k : Int) + (i : Int) = (J : Int) := by omega
      obtain ⟨P, hP⟩ : ∃ P, P = p + i := ⟨_, rfl⟩
      have eP : (p : Int) + (i : Int) = (P : Int) := by omega
      obtain ⟨X, hX⟩ : ∃ X, X = ((bs.drop k).take i).map bval := ⟨_, rfl⟩
      have hXl : X.length = i := by rw [hX, List.length_map, hl1]
      have hJn : J ≤ n := by omega
      have hJk : k ≤ J := by omega
      have hJd : J + 2 ≤ n := by omega
      have hPN : P + 1 ≤ N := by omega
      have q1 : p ≤ N := by omega
      have q2 : ¬ (N = p) := by omega
      have q3 : J ≤ cap := by omega
      have q4 : ¬ (cap = k) := by omega
      have q5 : P ≤ N := by omega
      have q6 : ¬ (N = P) := by omega
      have HJ := Lib.hid hJ; have HP := Lib.hid hP
      clear hJ hP
      have HI := Lib.hid hI; have HX := Lib.hid hX; have HC2 := Lib.hid hr2
      have hkn : k < n := by omega
      clear hI hi hs hX hr2 HCR HRES hl1
      go_wp2_with (go_at_call 50; refine HI.out.mono ?_; rintro e w2 ⟨rfl, hb2⟩)
      have hbw2 := hbw.trans (hb2.mono hbw.size)
      have HG2 := Lib.hid (heap_at HG.out hb2)
      clear HG HI hb2 hbw
      have f1 : Hid (X.length = Nat.min (J - k) (N - p)) := by
        show X.length = Nat.min (J - k) (N - p)
        rw [hXl]; have := HJ.out; show i = min (J - k) (N - p); omega
      have f2 : Hid (0 < X.length → (some ⟨g, p, none⟩ : Option Addr) = some ⟨g, p, none⟩ ∧ ∃ ad, (some ⟨b, o + k, none⟩ : Option Addr) = some ad ∧ ∀ j v, X[j]? = some v → w2.drew.cell? (ad.add j) = some v) := fun _ => ⟨rfl, _, rfl, by
          rw [HX.out]
          refine src_cells fun j x hj => ?_
          rw [List.getElem?_take] at hj
          split at hj
          · rw [List.getElem?_drop] at hj
            have h1 := HB.out _ x hj
            rw [Nat.add_assoc, (Below.drew hbw2).cell (block_lt_of_cell h1)]; exact h1
          · simp at hj⟩
      have f3 : Hid (p + X.length ≤ cur.length) := by show p + X.length ≤ cur.length; rw [hXl, hcur]; omega
      have f4 : Hid (∀ v ∈ X, v.oneCell' = true) := by show ∀ v ∈ X, v.oneCell' = true; rw [HX.out]; exact bval_one _
      have f5 : Hid (Below w.heap.size w w2.drew) := Below.drew hbw2
      go_region_law (refine step_copy_splice rfl (.tmp 61) (.tmp 65) 24 24 rfl 5 Tryd.underlying24 size5 (some ⟨g, p, none⟩) (some ⟨b, o + k, none⟩) (N - p) (N - p) (J - k) (cap - k) (by go_simp) (by go_simp) g p cur 5 HG2.out X f1.out f2.out f3.out f4.out w.heap.size w f5.out hgs ?_; intro w3 HG3 hb3)
      have HK := Lib.hid hb3
      have f6 : Hid (0 < [bval nc].length → (some ⟨g, P, none⟩ : Option Addr) = some ⟨g, P, none⟩ ∧ ∃ ad, (some ⟨b3, o3, none⟩ : Option Addr) = some ad ∧ ∀ j v, [bval nc][j]? = some v → w3.cell? (ad.add j) = some v) := fun _ => ⟨rfl, _, rfl, by
          have h1 := HNW.out
          have h2 : w3.cell? ⟨b3, o3, none⟩ = some (bval nc) := by rw [hb3.cell (block_lt_of_cell h1)]; exact h1
          intro j v hv
          cases j with
          | zero =>
            have : bval nc = v := by simpa using hv
            rw [plain_add, ← this]; exact h2
          | succ j => simp at hv⟩
      have f7 : Hid (P + [bval nc].length ≤ (splice cur p X).length) := by
        show P + 1 ≤ (splice cur p X).length
        rw [length_splice _ _ _ f3.out, hcur]; omega
      have f8 : Hid (∀ v ∈ [bval nc], v.oneCell' = true) := bval_one [nc]
      have f9 : Hid ([bval nc].length = Nat.min 1 (N - P)) := by show 1 = min 1 (N - P); omega
      go_wp2_with (with_reducible refine wpList_copy_splice rfl (.tmp 71) (.tmp 72) 24 24 rfl 5 Tryd.underlying24 size5 (some ⟨g, P, none⟩) (some ⟨b3, o3, none⟩) (N - P) (N - P) 1 k3 (by go_simp) (by go_simp) g P (splice cur p X) 5 HG3.out [bval nc] f9.out f6.out f7.out f8.out w.heap.size w HK.out hgs ?_; intro w4 HG4 hb4)
      have HK4 := Lib.hid hb4
      go_roundw
      case rel =>
        have hl1 : ((bs.drop k).take i).length = i := by have := HX.out; rw [this] at hXl; simpa using hXl
        have e1 : (splice cur p X).take P = (out ++ (bs.drop k).take i).map bval := by
          have := splice_take cur out ((bs.drop k).take i) p hout HTK.out (by rw [hl1, hcur]; omega)
          rw [hl1, ← HP.out, ← HX.out] at this
          exact this
        have e2 := splice_take (splice cur p X) (out ++ (bs.drop k).take i) [nc] P (by rw [List.length_append, hl1, hout, HP.out]) e1 (by rw [length_splice _ _ _ f3.out, hcur]; exact hPN)
        have e3 : J + 2 = k + (i + 2) := by rw [HJ.out]; omega
        exact ⟨r, J + 2, P + 1, c + 1, out ++ ((bs.drop k).take i ++ [nc]), splice (splice cur p X) P [bval nc], by congr 1, by congr 1, by congr 1, by omega, hJd, by simp only [List.length_append, hl1, hout, List.length_cons, List.length_nil]; rw [HP.out]; omega,
          by rw [length_splice _ _ _ f7.out, length_splice _ _ _ f3.out, hcur], by rw [e3]; exact HC2, by rw [e3]; exact HRES2, HG4, by rw [← List.append_assoc]; exact Lib.hid e2, HK4.out⟩
      case measure => simp [intOf]; omega
    | zero =>
      have HRES2 : Hid (res = out ++ bs.drop k) := by unfold Hid; rw [HRES.out, rep_zero]
      obtain ⟨m, hm⟩ : ∃ m, n = k + m := ⟨n - k, by omega⟩
      have hNp : N = p + m := by rw [HN.out, HRES2.out, List.length_append, List.length_drop, HL.out, hout]; omega
      have hcM : c = M := by omega
      obtain ⟨X, hX⟩ : ∃ X, X = (bs.drop k).map bval := ⟨_, rfl⟩
      have hXl : X.length = m := by rw [hX, List.length_map, List.length_drop, HL.out]; omega
      have HX := Lib.hid hX
      have hfin : ∀ w', w'.heap[g]? = some (.cells (splice cur p X).toArray 5 (0, 0)) → Bytes w' (some ⟨g, 0, none⟩) res := fun w' h => by
        refine .inr ⟨g, 0, rfl, fun j x hj => ?_⟩
        rw [Nat.zero_add, cell_row h]
        have e1 := splice_take cur out (bs.drop k) p hout HTK.out (by rw [← List.length_map (f := bval), ← HX.out, hXl, hcur]; omega)
        rw [← HX.out, ← HRES2.out, List.take_of_length_le (by
          rw [length_splice _ _ _ (by rw [hXl, hcur]; omega), hcur, ← List.length_map (f := bval), ← HX.out, hXl]; omega)] at e1
        rw [e1, List.getElem?_toArray, List.getElem?_map, hj]; rfl
      have HFIN := Lib.hid hfin
      clear hfin hX HRES HCR
      subst hcM
      have f1 : Hid (X.length = Nat.min (n - k) (N - p)) := by
        show X.length = min (n - k) (N - p)
        omega
      have f2 : Hid (∀ j v, X[j]? = some v → wr.drew.cell? ((⟨b, o + k, none⟩ : Addr).add j) = some v) := by
        show ∀ j v, X[j]? = some v → wr.drew.cell? ((⟨b, o + k, none⟩ : Addr).add j) = some v
        rw [HX.out]
        refine src_cells fun j x hj => ?_
        rw [List.getElem?_drop] at hj
        have h1 := HB.out _ x hj
        rw [Nat.add_assoc, (Below.drew hbw).cell (block_lt_of_cell h1)]; exact h1
      have f3 : Hid (p + X.length ≤ cur.length) := by show p + X.length ≤ cur.length; rw [hXl, hcur]; omega
      have f4 : Hid (∀ v ∈ X, v.oneCell' = true) := by show ∀ v ∈ X, v.oneCell' = true; rw [HX.out]; exact bval_one _
      have f5 : Hid (Below w.heap.size w wr.drew) := Below.drew hbw
      have q1 : p ≤ N := by omega
      have q3 : k ≤ n := hk
      have eZ : (p : Int) + (m : Int) = (N : Int) := by omega
      have HNP := Lib.hid hNp; have HM := Lib.hid hm
      by_cases hp : N = p
      · have hm0 : m = 0 := by omega
        have hkn : k = n := by omega
        have hX0 : X = [] := List.length_eq_zero_iff.1 (by rw [hXl, hm0])
        have g1 : Hid (([] : List Value).length = Nat.min 0 0) := Lib.hid rfl
        have g3 : Hid (p + ([] : List Value).length ≤ cur.length) := by show p + 0 ≤ cur.length; omega
        have HF : Hid (∀ w', w'.heap[g]? = some (.cells (splice cur p []).toArray 5 (0, 0)) → Bytes w' (some ⟨g, 0, none⟩) res) := by rw [← hX0]; exact HFIN
        clear hm hNp HFIN f1 f2 f3 f4 HX
        subst hm0 hkn
        by_cases hq : cap = k
        · subst hq
          go_wp2
          go_region_law (refine step_copy_splice rfl (.tmp 123) (.tmp 126) 24 24 rfl 5 Tryd.underlying24 size5 (some ⟨g, 0, none⟩) (some ⟨b, o, none⟩) 0 0 0 0 (by go_simp) (by go_simp) g p cur 5 HG.out [] g1.out (fun h => absurd h (by simp)) g3.out (fun v h => absurd h (by simp)) w.heap.size w f5.out hgs ?_; intro w3 HG3 hb3)
          all_goals
            go_wp2
            go_ret
            exact ⟨g, p, _, rfl, by first | exact Nat.le_refl _ | omega, by rw [← hp]; exact HN.out.symm, HF.out _ HG3.out, hb3⟩
        · go_wp2
          go_region_law (refine step_copy_splice rfl (.tmp 123) (.tmp 126) 24 24 rfl 5 Tryd.underlying24 size5 (some ⟨g, 0, none⟩) (some ⟨b, o + k, none⟩) 0 0 0 (cap - k) (by go_simp) (by go_simp) g p cur 5 HG.out [] g1.out (fun h => absurd h (by simp)) g3.out (fun v h => absurd h (by simp)) w.heap.size w f5.out hgs ?_; intro w3 HG3 hb3)
          all_goals
            go_wp2
            go_ret
            exact ⟨g, p, _, rfl, by first | exact Nat.le_refl _ | omega, by rw [← hp]; exact HN.out.symm, HF.out _ HG3.out, hb3⟩
      · have hq : ¬ (cap = k) := by omega
        have hN0 : ¬ (N = 0) := by omega
        clear hm hNp
        go_wp2
        go_region_law (refine step_copy_splice rfl (.tmp 123) (.tmp 126) 24 24 rfl 5 Tryd.underlying24 size5 (some ⟨g, p, none⟩) (some ⟨b, o + k, none⟩) (N - p) (N - p) (n - k) (cap - k) (by go_simp) (by go_simp) g p cur 5 HG.out X f1.out (fun _ => ⟨rfl, _, rfl, f2.out⟩) f3.out f4.out w.heap.size w f5.out hgs ?_; intro w3 HG3 hb3)
        all_goals
          go_wp2
          go_ret
          exact ⟨g, N, _, rfl, by first | exact Nat.le_refl _ | omega, HN.out.symm, HFIN.out _ HG3.out, hb3⟩
end Go.Proofs.YthbjibgfhagonaaDoor
