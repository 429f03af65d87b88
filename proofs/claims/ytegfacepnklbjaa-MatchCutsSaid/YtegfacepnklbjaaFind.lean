/- Bytes as tokens: what the search answers. -/
import Derived.Test.YtegfacepnklbjaaBetter
import Derived.Test.YtegfacepnklbjaaEff
import Derived.Test.YtegfacepnklbjaaToks
import Derived.Deep.DeepCutAuto
namespace Go.Proofs.Ytegfacepnklbjaa
open Go.RowKit Go.Maps
set_option linter.unusedVariables false

theorem info3 : (Try.prog.info? 3).map (fun i => (i.zero, i.size, i.bytes)) = some (some (.int .i64 0), 1, 8) := by kernel_rfl

theorem hal {X : World} {k : Nat} {ob : Obj} {o : Obj} (h : X.heap[k]? = some ob) : (X.alloc o).heap[k]? = some ob := by
  rw [((Below.refl X.heap.size X).alloc (Nat.le_refl _) o).block k (Array.getElem?_eq_some_iff.1 h).1]; exact h
theorem htop {X : World} {k : Nat} {o : Obj} (hk : k = X.heap.size) : (X.alloc o).heap[k]? = some o := by rw [hk]; exact (MapKept.heap_alloc X o).1
theorem hdw {X : World} {k : Nat} {ob : Obj} (h : X.heap[k]? = some ob) : X.drew.heap[k]? = some ob := h
theorem hbe {X W : World} {k : Nat} {ob : Obj} (hb : Below X.heap.size X W) (h : X.heap[k]? = some ob) : W.heap[k]? = some ob := by
  rw [hb.block k (Array.getElem?_eq_some_iff.1 h).1]; exact h
theorem bal {w X : World} {o : Obj} (h : Below w.heap.size w X) : Below w.heap.size w (X.alloc o) := h.alloc h.size o
theorem bdw {w X : World} (h : Below w.heap.size w X) : Below w.heap.size w X.drew := Below.drew h
theorem bbe {w X W : World} (hb : Below X.heap.size X W) (h : Below w.heap.size w X) : Below w.heap.size w W := h.trans (hb.mono h.size)
/-- A finder that is made. -/
structure Made (mc : Array Value) (w wx : World) (F M V n cap : Nat) (a : Option Addr) (c m : Nat) (z : Bool) : Prop where
  hF : wx.heap[F]? = some (.cells #[.slice a n cap, .int .i64 c, .int .i64 m, .bool z, .map (some M), .slice (some ⟨V, 0, none⟩) n n, .int .i64 0] 48 (0, 0))
  hV : wx.heap[V]? = some (.cells mc 3 (0, 0))
  hM : wx.heap[M]? = some (.map #[] 0)
  lF : w.heap.size ≤ F
  lM : w.heap.size ≤ M
  lV : w.heap.size ≤ V
  below : Below w.heap.size w wx

/-- How far the search has come. -/
structure FS (bs : List UInt8) (lv : Int) (p : Nat) (ts : List Tk) : Prop where
  tells : Tells bs 0 ts
  ends : ends 0 ts = p
  none : lv ≤ 0 → ∀ t ∈ ts, t.len = 0
  some : 1 ≤ lv → (∃ t ∈ ts, 3 ≤ t.len) ∨ ((∃ q, q < p ∧ Again bs q) → Again bs p)
theorem FS.start (bs : List UInt8) (lv : Int) : FS bs lv 0 [] := ⟨trivial, rfl, fun _ t h => by simp at h, fun _ => .inr fun ⟨q, h, _⟩ => by omega⟩
theorem FS.lit {bs : List UInt8} {lv : Int} {p : Nat} {ts : List Tk} {c : UInt8} (h : FS bs lv p ts) (hc : bs[p]? = Option.some c) (hA : 1 ≤ lv → Again bs p → Again bs (p + 1)) : FS bs lv (p + 1) (ts ++ [⟨c, 0, 0⟩]) := by
  refine ⟨(tells_append _ _ _ _).2 ⟨h.tells, ?_, trivial⟩, by rw [ends_snoc, h.ends]; rfl, fun hl t ht => ?_, fun hl => ?_⟩
  · rw [h.ends]; exact .inl ⟨rfl, rfl, hc⟩
  · rcases List.mem_append.1 ht with ht | ht
    · exact h.none hl t ht
    · simp at ht; rw [ht]
  · rcases h.some hl with ⟨t, h1, h2⟩ | h1
    · exact .inl ⟨t, List.mem_append_left _ h1, h2⟩
    · refine .inr fun ⟨q, hq, hqa⟩ => hA hl ?_
      by_cases e : q = p
      · rw [← e]; exact hqa
      · exact h1 ⟨q, by omega, hqa⟩
theorem FS.copy {bs : List UInt8} {lv : Int} {p : Nat} {ts : List Tk} {t : Tk} (h : FS bs lv p ts) (hg : good bs p t) (h3 : 3 ≤ t.len) (hl : 1 ≤ lv) : FS bs lv (p + t.len) (ts ++ [t]) := by
  refine ⟨(tells_append _ _ _ _).2 ⟨h.tells, by rw [h.ends]; exact hg, trivial⟩, by rw [ends_snoc, h.ends]; omega, fun hl2 => by omega, fun _ => .inl ⟨t, by simp, h3⟩⟩
theorem FS.done {bs : List UInt8} {lv : Int} {ts : List Tk} (h : FS bs lv bs.length ts) : Found bs lv ts := by
  refine ⟨h.tells, h.ends, h.none, fun hl => ?_⟩
  rcases h.some hl with h1 | h1
  · exact .inl h1
  · refine .inr fun p hp => ?_
    have h2 : p < bs.length := by have := hp.1; omega
    have := (h1 ⟨p, h2, hp⟩).1
    omega
theorem OwnT.tur {w w' : World} {B F M V b o n cap : Nat} {bs : List UInt8} {ch en : Nat} {lz : Bool} {nx : Nat} {v : Value} {ts : List Tk} (h : OwnT w B 34 v ts) (hf : Fin w F M V b o n cap bs ch en lz nx) (hT : Tur w w' F M V) : OwnT w' B 34 v ts := by
  obtain ⟨cur0, p1, _⟩ := hf.prev
  obtain ⟨D, m, ⟨es, ck, m1, _⟩, _⟩ := hf.map
  unfold OwnT at h ⊢
  refine ⟨h.1, ?_⟩
  rcases h.2 with h2 | ⟨g, cap, cur, hv, hg, hh, r⟩
  · exact .inl h2
  · refine .inr ⟨g, cap, cur, hv, hg, ?_, r⟩
    rw [hT.block g (Array.getElem?_eq_some_iff.1 hh).1 (fun e => ?_) (fun e => ?_) (fun e => ?_)]
    · exact hh
    · rw [e, hf.blk] at hh; simp at hh
    · rw [e, m1] at hh; simp at hh
    · rw [e, p1] at hh; simp at hh
theorem Fin.grown34 {w w' : World} {B F M V b o n cap : Nat} {bs : List UInt8} {ch en : Nat} {lz : Bool} {nx : Nat} {v : Value} {ts : List Tk} (hf : Fin w F M V b o n cap bs ch en lz nx) (h : OwnT w B 34 v ts) (hbB : b < B) (hg : w.grownBy w' v.ownBlock) : Fin w' F M V b o n cap bs ch en lz nx := by
  obtain ⟨cur0, p1, p2, p3⟩ := hf.prev
  obtain ⟨D, m, hm, m2, m3⟩ := hf.map
  have hM := hm
  obtain ⟨es, ck, m1, _⟩ := hM
  have own : ∀ g ob, w.heap[g]? = some ob → (∀ cs, ob ≠ .cells cs 34 (0, 0)) → some g ≠ v.ownBlock := fun g ob hob hne e => by
    rcases h.2 with ⟨rfl, _⟩ | ⟨g', cap', cur, rfl, _, hh, _⟩
    · simp [Value.ownBlock] at e
    · simp only [Value.ownBlock, Option.some.injEq] at e
      subst e
      rw [hh] at hob
      exact hne cur (Option.some.inj hob).symm
  have nF := own F _ hf.blk (fun cs e => by simp at e)
  have nV := own V _ p1 (fun cs e => by simp at e)
  have nM := own M _ m1 (fun cs e => by simp at e)
  have nb : some b ≠ v.ownBlock := fun e => by
    rcases h.2 with ⟨rfl, _⟩ | ⟨g', cap', cur, rfl, hge, hh, _⟩
    · simp [Value.ownBlock] at e
    · simp only [Value.ownBlock, Option.some.injEq] at e
      omega
  refine ⟨?_, ⟨cur0, ?_, p2, p3⟩, ⟨D, m, hm.kept hg nM, m2, m3⟩, fun i c hi => hg.cell (hf.lie i c hi) nb, hf.apart, hf.le⟩
  · rw [hg.block F (Array.getElem?_eq_some_iff.1 hf.blk).1 nF]; exact hf.blk
  · rw [hg.block V (Array.getElem?_eq_some_iff.1 p1).1 nV]; exact p1
theorem made_get (n i : Nat) (hi : i < n) : (madeCells #[.int .i64 0] n)[i]? = some (.int .i64 ((0 : Nat) : Int)) := by
  rw [← Array.getElem?_toList, toList_madeCells_one, List.getElem?_replicate, if_pos hi]; rfl
theorem Made.fin {w wx : World} {F M V b o n cap c m : Nat} {z : Bool} {bs : List UInt8} (h : Made (madeCells #[.int .i64 0] n) w wx F M V n cap (some ⟨b, o, none⟩) c m z) (hl : bs.length = n) (hb : Lie w b o bs) (h0 : 0 < n) : Fin wx F M V b o n cap bs c m z 0 := by
  obtain ⟨c0, hc0⟩ := at_some (us := bs) (k := 0) (by omega)
  have hbl := block_lt_of_cell (hb 0 c0 hc0)
  have hbl : b < w.heap.size := hbl
  have h1 := h.lF; have h2 := h.lM; have h3 := h.lV
  refine ⟨h.hF, ⟨_, h.hV, size_madeCells _ n, fun i hi => ⟨0, made_get n i hi, by omega⟩⟩, ⟨.map [], 0, ⟨#[], 0, h.hM, ⟨by simp, Go.MapKept.stamped_empty 0, by simp⟩, Nat.le_refl _, rfl⟩, Nat.le_refl _, ⟨fun x => ⟨0, rfl, Nat.le_refl _, fun hx => by omega⟩, fun q hq => by omega⟩⟩, hb.below h.below, ⟨by omega, by omega, by omega⟩, Nat.zero_le _⟩

set_option maxRecDepth 100000 in
set_option maxHeartbeats 2000000 in
theorem find_any (a : Option Addr) (n cap : Nat) (bs : List UInt8) (lv : Int) (hl : bs.length = n) (hn : n ≤ 32768) (hcap : n ≤ cap) (hlv : -9223372036854775808 ≤ lv ∧ lv ≤ 9223372036854775807) (w : World) (hb : Bytes w a bs) :
    Calls Try.prog 8 #[.slice a n cap, .int .i64 lv] w fun e w' => ∃ v ts, e = .returned v ∧ OwnT w' w.heap.size 34 v ts ∧ Found bs lv ts ∧ Below w.heap.size w w' := by
  have HL := Lib.hid hl; have HB := Lib.hid hb
  clear hl hb
  have hmm := @run_makeMap Try.prog
  have hmk := run_make_row' (P := Try.prog) 46 3 (.int .i64 0) 8 Try.underlying46 info3 rfl .i64 .i64 n (by omega) (by omega)
  have HE := Lib.hid (fun w => efforts_any lv w)
  obtain ⟨mc, hmc⟩ : ∃ mc, mc = madeCells #[.int .i64 0] n := ⟨_, rfl⟩
  rw [← hmc] at hmk
  have HMC := Lib.hid hmc
  clear hmc
  go_enter Try.func8, Try.ntmps8
  go_upto_region 1 with fail
  go_cut [5] (fun s5 wx => ∃ F M V c m z, s5 = .pointer (some ⟨F, 0, none⟩) ∧ Made mc w wx F M V n cap a c m z ∧ c ≤ 4096 ∧ m ≤ 258 ∧ (lv ≤ 0 → c = 0) ∧ (1 ≤ lv → 1 ≤ c))
  case first =>
    go_region_with (first | (go_at_call 15; refine (HE.out _).mono ?_; rintro e W ⟨⟨c, m, z, rfl, hc1, hc2, hc3, hc4⟩, hbW⟩))
    all_goals
      go_wp2_with fail
      go_meet
    all_goals
      refine ⟨_, _, _, c, m, z, rfl, ⟨htop (by simp), ?_, ?_, ?_, ?_, ?_, ?_⟩, hc1, hc2, hc3, hc4⟩
      · repeat (first | exact htop (by simp) | refine hal ?_ | refine hbe hbW ?_ | exact hdw (htop (by simp)) | exact hdw (hal (htop (by simp))))
      · repeat (first | exact htop (by simp) | refine hal ?_ | refine hbe hbW ?_ | exact hdw (htop (by simp)) | exact hdw (hal (htop (by simp))))
      · have := hbW.size; simp at this ⊢; omega
      · have := hbW.size; simp at this ⊢; try omega
      · have := hbW.size; simp at this ⊢; try omega
      · repeat (first | exact Below.refl _ _ | refine bal ?_ | refine bbe hbW ?_ | exact Below.drew (Below.refl _ _) | exact Below.drew (bal (Below.refl _ _)) | exact Below.drew (bal (bal (Below.refl _ _))))
  case rest =>
    obtain ⟨F, M, V, c, m, z, rfl, hM, hc1, hc2, hc3, hc4⟩ := hcut
    have HM := Lib.hid hM
    have HC3 := Lib.hid hc3; have HC4 := Lib.hid hc4
    clear hM hc3 hc4 HE hmm hmk
    go_wp2_with fail
    go_loopw [6, 7] (fun v i wr => ∃ (p : Nat) (ts : List Tk), p ≤ n ∧ i = .int .i64 p ∧ OwnT wr w.heap.size 34 v ts ∧ Hid (FS bs lv p ts) ∧
      Hid (0 < n → ∃ b o nx, a = some ⟨b, o, none⟩ ∧ nx ≤ p ∧ Fin wr F M V b o n cap bs c m z nx) ∧ Below w.heap.size w wr) (fun _ i _ => n - (intOf i).toNat)
    case atStart =>
      refine ⟨0, [], by omega, rfl, OwnT.nil _ _ _, Lib.hid (FS.start _ _), Lib.hid (fun h0 => ?_), HM.out.below⟩
      rcases HB.out with h | ⟨b, o, rfl, hb⟩
      · have := HL.out; rw [h] at this; simp at this; omega
      · exact ⟨b, o, 0, rfl, Nat.le_refl _, (HMC.out ▸ HM.out).fin HL.out hb h0⟩
    case round =>
      obtain ⟨p, ts, hp, rfl, hO, HFS, hFin, hbw⟩ := hrel
      by_cases hlt : p < n
      · obtain ⟨b, o, nx, rfl, hnx, hF⟩ := hFin.out (by omega)
        obtain ⟨x, hx⟩ := at_some (us := bs) (k := p) (by rw [HL.out]; omega)
        have hts : ts.length ≤ p := by have := ends_le 0 ts; rw [HFS.out.ends] at this; omega
        obtain ⟨ao, oc, hv, _, _⟩ := hO.form
        subst hv
        have HF := Lib.hid hF; have HO := Lib.hid hO; have HX := Lib.hid hx
        have hlF := HM.out.lF; have hlM := HM.out.lM; have hlV := HM.out.lV
        clear hF hO hx hFin
        go_wp2_with fail
        refine (best_any F M V b o n cap c m z bs nx p HL.out hn hcap hp hnx hc1 hc2 wr HF.out).mono ?_
        rintro e w2 ⟨t, rfl, hB, ⟨nx2, hnx2, hF2⟩, hT2⟩
        have HF2 : Hid (Fin (w2.alloc (.cells #[.int .u8 (byt t.lit), .int .i64 t.len, .int .i64 t.dist] 34)) F M V b o n cap bs c m z nx2) := hF2.keep ((Below.refl _ _).alloc (Nat.le_refl _) _)
        have HT2 : Hid (Below w.heap.size w (w2.alloc (.cells #[.int .u8 (byt t.lit), .int .i64 t.len, .int .i64 t.dist] 34))) := ((hbw.trans (hT2.below hbw.size hlF hlM hlV))).alloc (Nat.le_trans hbw.size hT2.size) _
        have HO2 : Hid (OwnT (w2.alloc (.cells #[.int .u8 (byt t.lit), .int .i64 t.len, .int .i64 t.dist] 34)) w.heap.size 34 (.slice ao ts.length oc) ts) := (HO.out.tur HF.out hT2).below ((Below.refl _ _).alloc (Nat.le_refl _) _)
        have HBE := Lib.hid hB
        have hkF : w2.heap.size ≠ F := by have := (Array.getElem?_eq_some_iff.1 hF2.blk).1; omega
        have hkM : w2.heap.size ≠ M := by obtain ⟨D, q, hq, _⟩ := hF2.map; have := hq.lt; omega
        have hkV : w2.heap.size ≠ V := by obtain ⟨cc, hq, _⟩ := hF2.prev; have := (Array.getElem?_eq_some_iff.1 hq).1; omega
        have hos : ∀ g, (Value.slice ao ts.length oc).ownBlock = some g → g < w2.heap.size := fun g hg => Nat.lt_of_lt_of_le (World.ownsRow.lt HO.out g hg).2 hT2.size
        clear hB hF2 hT2 HF HO hbw
        unfold tkV
        have hbl : b < w.heap.size := by
          rcases HB.out with h | ⟨b', o', h1, h2⟩
          · have := HL.out; rw [h] at this; simp at this; omega
          · cases h1
            obtain ⟨c0, hc0⟩ := at_some (us := bs) (k := 0) (by rw [HL.out]; omega)
            exact block_lt_of_cell (h2 0 c0 hc0)
        rcases HBE.out.copy with rfl | ⟨h3, hg⟩
        · have HA : Hid (1 ≤ lv → Again bs p → Again bs (p + 1)) := fun h1 h2 => by
            have := HBE.out.some (HC4.out h1) h2; simp at this
          have HF : Hid (Fin (w2.alloc (.cells #[.int .u8 (byt 0), .int .i64 0, .int .i64 0] 34)) F M V b o n cap bs c m z nx2) := HF2
          have HT : Hid (Below w.heap.size w (w2.alloc (.cells #[.int .u8 (byt 0), .int .i64 0, .int .i64 0] 34))) := HT2
          have HO : Hid (OwnT (w2.alloc (.cells #[.int .u8 (byt 0), .int .i64 0, .int .i64 0] 34)) w.heap.size 34 (.slice ao ts.length oc) ts) := HO2
          clear HF2 HT2 HO2
          have hcx := HF.out.lie p x HX.out
          have HO1 : Hid (OwnT ((w2.alloc (.cells #[.int .u8 (byt 0), .int .i64 0, .int .i64 0] 34)).alloc (.cells #[.int .u8 (byt x), .int .i64 0, .int .i64 0] 34)) w.heap.size 34 (.slice ao ts.length oc) ts) := HO.out.below ((Below.refl _ _).alloc (Nat.le_refl _) _)
          have HB1 : Hid (Below w.heap.size w ((w2.alloc (.cells #[.int .u8 (byt 0), .int .i64 0, .int .i64 0] 34)).alloc (.cells #[.int .u8 (byt x), .int .i64 0, .int .i64 0] 34))) := HT.out.alloc HT.out.size _
          have HF1 : Hid (Fin ((w2.alloc (.cells #[.int .u8 (byt 0), .int .i64 0, .int .i64 0] 34)).alloc (.cells #[.int .u8 (byt x), .int .i64 0, .int .i64 0] 34)) F M V b o n cap bs c m z nx2) := HF.out.keep ((Below.refl _ _).alloc (Nat.le_refl _) _)
          have HM1 : Hid (Toks ((w2.alloc (.cells #[.int .u8 (byt 0), .int .i64 0, .int .i64 0] 34)).alloc (.cells #[.int .u8 (byt x), .int .i64 0, .int .i64 0] 34)) (some ⟨w2.heap.size + 1, 0, none⟩) [⟨x, 0, 0⟩]) := by have := mk_one (w2.alloc (.cells #[.int .u8 (byt 0), .int .i64 0, .int .i64 0] 34)) ⟨x, 0, 0⟩ 34 (0, 0); rw [World.size_alloc] at this; exact this
          have HLN : Hid (ts.length + [(⟨x, 0, 0⟩ : Tk)].length ≤ 1099511627776) := by unfold Hid; simp; omega
          go_wp2_with (at_builtin; go_loud (refine wpList_append_toks rfl (.tmp 34) (.tmp 40) 25 34 rfl Try.underlying25 info34 w.heap.size _ ts [⟨x, 0, 0⟩] (some ⟨w2.heap.size + 1, 0, none⟩) 1 1 rfl HO1.out rfl rfl HM1.out (fun h => by cases h) HLN.out HB1.out.size ?_))
          rintro v3 w3 hO3 hg3 hb3
          have HF3 : Hid (Fin w3 F M V b o n cap bs c m z nx2) := HF1.out.grown34 HO1.out hbl hg3
          have HO3 := Lib.hid hO3
          have HB3 : Hid (Below w.heap.size w w3) := HB1.out.trans hb3
          have HFS3 : Hid (FS bs lv (p + 1) (ts ++ [⟨x, 0, 0⟩])) := HFS.out.lit HX.out HA.out
          clear hO3 hg3 hb3 hcx
          go_wp2_with fail
          go_roundw
          case rel => exact ⟨p + 1, ts ++ [⟨x, 0, 0⟩], by omega, by simp, HO3.out, HFS3, Lib.hid (fun _ => ⟨b, o, nx2, rfl, by omega, HF3.out⟩), HB3.out⟩
          case measure => simp [intOf]; omega
        · have HG := Lib.hid hg
          have hl0 : ((t.len : Int) == 0) = false := by rw [beq_eq_false_iff_ne]; omega
          have hl258 : t.len ≤ 258 ∧ p + t.len ≤ n := by
            rcases hg with h | h
            · omega
            · have := HL.out; exact ⟨h.2.1, by have := h.2.2.2.2.2.2.1; omega⟩
          obtain ⟨hl1, hl2⟩ := hl258
          have HBLK : Hid ((w2.alloc (.cells #[.int .u8 (byt t.lit), .int .i64 t.len, .int .i64 t.dist] 34)).heap[w2.heap.size]? = some (.cells #[.int .u8 (byt t.lit), .int .i64 t.len, .int .i64 t.dist] 34 (0, 0))) := (MapKept.heap_alloc w2 _).1
          clear hg
          go_wp2_with fail
          refine (better_any F M V b o n cap c m z bs nx2 p t HL.out hn hcap (by omega) hnx2 hc1 hc2 hl1 _ HF2.out).mono ?_
          rintro e w5 ⟨v, rfl, hv, ⟨nx3, hnx3, hF5⟩, hT5⟩
          have HBK5 : Hid (w5.heap[w2.heap.size]? = some (.cells #[.int .u8 (byt t.lit), .int .i64 t.len, .int .i64 t.dist] 34 (0, 0))) := by
            unfold Hid
            rw [hT5.block _ (by rw [World.size_alloc]; omega) hkF hkM hkV]
            exact HBLK.out
          have HF : Hid (Fin w5 F M V b o n cap bs c m z nx3) := hF5
          have HT : Hid (Below w.heap.size w w5) := HT2.out.trans (hT5.below HT2.out.size hlF hlM hlV)
          have HO : Hid (OwnT w5 w.heap.size 34 (.slice ao ts.length oc) ts) := HO2.out.tur HF2.out hT5
          have HV := Lib.hid hv
          clear HF2 HT2 HO2 hF5 hT5 hv
          cases v with
          | true =>
            have HA : Hid (1 ≤ lv → Again bs p → Again bs (p + 1)) := fun h1 h2 => by
              obtain ⟨t2, hb2, hlt2⟩ := HV.out rfl
              rcases hb2.copy with rfl | ⟨h5, h6⟩
              · simp at hlt2
              · exact good_again h6 h5
            have hcx := HF.out.lie p x HX.out
            have HO1 : Hid (OwnT (w5.alloc (.cells #[.int .u8 (byt x), .int .i64 0, .int .i64 0] 34)) w.heap.size 34 (.slice ao ts.length oc) ts) := HO.out.below ((Below.refl _ _).alloc (Nat.le_refl _) _)
            have HB1 : Hid (Below w.heap.size w (w5.alloc (.cells #[.int .u8 (byt x), .int .i64 0, .int .i64 0] 34))) := HT.out.alloc HT.out.size _
            have HF1 : Hid (Fin (w5.alloc (.cells #[.int .u8 (byt x), .int .i64 0, .int .i64 0] 34)) F M V b o n cap bs c m z nx3) := HF.out.keep ((Below.refl _ _).alloc (Nat.le_refl _) _)
            have HM1 : Hid (Toks (w5.alloc (.cells #[.int .u8 (byt x), .int .i64 0, .int .i64 0] 34)) (some ⟨w5.heap.size, 0, none⟩) [⟨x, 0, 0⟩]) := mk_one w5 ⟨x, 0, 0⟩ 34 _
            have HLN : Hid (ts.length + [(⟨x, 0, 0⟩ : Tk)].length ≤ 1099511627776) := by unfold Hid; simp; omega
            go_wp2_with (at_builtin; go_loud (refine wpList_append_toks rfl (.tmp 34) (.tmp 40) 25 34 rfl Try.underlying25 info34 w.heap.size _ ts [⟨x, 0, 0⟩] (some ⟨w5.heap.size, 0, none⟩) 1 1 rfl HO1.out rfl rfl HM1.out (fun h => by cases h) HLN.out HB1.out.size ?_))
            rintro v3 w3 hO3 hg3 hb3
            have HF3 : Hid (Fin w3 F M V b o n cap bs c m z nx3) := HF1.out.grown34 HO1.out hbl hg3
            have HO3 := Lib.hid hO3
            have HB3 : Hid (Below w.heap.size w w3) := HB1.out.trans hb3
            have HFS3 : Hid (FS bs lv (p + 1) (ts ++ [⟨x, 0, 0⟩])) := HFS.out.lit HX.out HA.out
            clear hO3 hg3 hb3 hcx
            go_wp2_with fail
            go_roundw
            case rel => exact ⟨p + 1, ts ++ [⟨x, 0, 0⟩], by omega, by simp, HO3.out, HFS3, Lib.hid (fun _ => ⟨b, o, nx3, rfl, by omega, HF3.out⟩), HB3.out⟩
            case measure => simp [intOf]; omega
          | false =>
            obtain ⟨k0, k1, k2, _, _, _⟩ := blk3 HBK5.out
            have hlv1 : 1 ≤ lv := by
              rcases Int.lt_or_le 0 lv with h | h
              · omega
              · have := HBE.out.none (HC3.out h); omega
            have HFS3 : Hid (FS bs lv (p + t.len) (ts ++ [t])) := HFS.out.copy HG.out h3 hlv1
            have HO1 : Hid (OwnT (w5.alloc (.cells #[.int .u8 (byt t.lit), .int .i64 t.len, .int .i64 t.dist] 34)) w.heap.size 34 (.slice ao ts.length oc) ts) := HO.out.below ((Below.refl _ _).alloc (Nat.le_refl _) _)
            have HB1 : Hid (Below w.heap.size w (w5.alloc (.cells #[.int .u8 (byt t.lit), .int .i64 t.len, .int .i64 t.dist] 34))) := HT.out.alloc HT.out.size _
            have HF1 : Hid (Fin (w5.alloc (.cells #[.int .u8 (byt t.lit), .int .i64 t.len, .int .i64 t.dist] 34)) F M V b o n cap bs c m z nx3) := HF.out.keep ((Below.refl _ _).alloc (Nat.le_refl _) _)
            have HM1 : Hid (Toks (w5.alloc (.cells #[.int .u8 (byt t.lit), .int .i64 t.len, .int .i64 t.dist] 34)) (some ⟨w5.heap.size, 0, none⟩) [t]) := mk_one w5 t 34 _
            have HLN : Hid (ts.length + [t].length ≤ 1099511627776) := by unfold Hid; simp; omega
            go_wp2_with (at_builtin; go_loud (refine wpList_append_toks rfl (.tmp 44) (.tmp 46) 25 34 rfl Try.underlying25 info34 w.heap.size _ ts [t] (some ⟨w5.heap.size, 0, none⟩) 1 1 rfl HO1.out rfl rfl HM1.out (fun h => by cases h) HLN.out HB1.out.size ?_))
            rintro v3 w3 hO3 hg3 hb3
            have HF3 : Hid (Fin w3 F M V b o n cap bs c m z nx3) := HF1.out.grown34 HO1.out hbl hg3
            have HO3 := Lib.hid hO3
            have HB3 : Hid (Below w.heap.size w w3) := HB1.out.trans hb3
            have hbk : w3.heap[w2.heap.size]? = some (.cells #[.int .u8 (byt t.lit), .int .i64 t.len, .int .i64 t.dist] 34 (0, 0)) := by
              have hne : some w2.heap.size ≠ (Value.slice ao ts.length oc).ownBlock := fun e => by
                have := hos _ e.symm; omega
              have hk5 : w2.heap.size < w5.heap.size := (Array.getElem?_eq_some_iff.1 HBK5.out).1
              rw [hg3.block _ (by rw [World.size_alloc]; omega) hne, ((Below.refl w5.heap.size w5).alloc (Nat.le_refl _) _).block _ hk5]
              exact HBK5.out
            obtain ⟨m0, m1, m2, _, _, _⟩ := blk3 hbk
            clear hO3 hg3 hb3 hbk k0 k1 k2
            go_wp2_with fail
            go_roundw
            case rel => exact ⟨p + t.len, ts ++ [t], hl2, by simp, HO3.out, HFS3, Lib.hid (fun _ => ⟨b, o, nx3, rfl, by omega, HF3.out⟩), HB3.out⟩
            case measure => simp [intOf]; omega
      · have hpn : p = n := by omega
        have HD : Hid (Found bs lv ts) := by
          have := HFS.out; rw [hpn, ← HL.out] at this; exact this.done
        have HO := Lib.hid hO
        clear hO hFin hpn
        go_wp2_with fail
        go_ret
        exact ⟨_, ts, rfl, HO.out, HD.out, hbw⟩
end Go.Proofs.Ytegfacepnklbjaa
