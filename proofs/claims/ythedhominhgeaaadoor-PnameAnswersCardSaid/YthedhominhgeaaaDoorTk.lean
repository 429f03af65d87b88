/- Names by their signs, in plain words: a right name is its own normal one but for letters behind %; the normal one of a normal one is itself. -/
import Derived.Test.YthedhominhgeaaaDoorPl
namespace Go.Proofs.YthedhominhgeaaaDoor
set_option linter.unusedVariables false

theorem told_some {l : List UInt8} {v : UInt8} (h : toldV l = some v) : ∃ a b r, l = 37 :: a :: b :: r ∧ 0 ≤ digit a ∧ 0 ≤ digit b ∧ v = UInt8.ofNat (16 * digit a + digit b).toNat := by
  match l, h with
  | c :: a :: b :: r, h =>
    have h2 : (if c = 37 ∧ 0 ≤ digit a ∧ 0 ≤ digit b then some (UInt8.ofNat (16 * digit a + digit b).toNat) else none) = some v := h
    by_cases hc : c = 37 ∧ 0 ≤ digit a ∧ 0 ≤ digit b
    · rw [if_pos hc] at h2
      injection h2 with h2
      exact ⟨a, b, r, by rw [hc.1], hc.2.1, hc.2.2, h2.symm⟩
    · rw [if_neg hc] at h2; cases h2
theorem told_of (a b : UInt8) (r : List UInt8) (ha : 0 ≤ digit a) (hb : 0 ≤ digit b) : toldV (37 :: a :: b :: r) = some (UInt8.ofNat (16 * digit a + digit b).toNat) := by
  show (if (37 : UInt8) = 37 ∧ 0 ≤ digit a ∧ 0 ≤ digit b then some (UInt8.ofNat (16 * digit a + digit b).toNat) else none) = _
  rw [if_pos ⟨rfl, ha, hb⟩]
theorem told_other {c : UInt8} (r : List UInt8) (h : c ≠ 37) : toldV (c :: r) = none := by
  cases hv : toldV (c :: r) with
  | none => rfl
  | some v =>
    obtain ⟨a, b, r', he, _⟩ := told_some hv
    injection he with he
    exact absurd he h
theorem toks_ind {P : List UInt8 → Prop} (h0 : P []) (h1 : ∀ c r, toldV (c :: r) = none → P r → P (c :: r))
    (h2 : ∀ a b r, 0 ≤ digit a → 0 ≤ digit b → P r → P (37 :: a :: b :: r)) : ∀ l, P l := by
  have : ∀ n l, l.length ≤ n → P l := by
    intro n
    induction n with
    | zero =>
      intro l hl
      have : l = [] := List.length_eq_zero_iff.1 (by omega)
      rw [this]; exact h0
    | succ n ih =>
      intro l hl
      cases l with
      | nil => exact h0
      | cons c r =>
        simp only [List.length_cons] at hl
        cases hv : toldV (c :: r) with
        | none => exact h1 c r hv (ih r (by omega))
        | some v =>
          obtain ⟨a, b, r', he, ha, hb, _⟩ := told_some hv
          rw [he]
          injection he with e1 e2
          rw [e2] at hl
          simp only [List.length_cons] at hl
          exact h2 a b r' ha hb (ih r' (by omega))
  exact fun l => this l.length l (Nat.le_refl _)
def escOf (a b : UInt8) : UInt8 := UInt8.ofNat (16 * digit a + digit b).toNat
theorem toks_hex {a b : UInt8} (r : List UInt8) (ha : 0 ≤ digit a) (hb : 0 ≤ digit b) : toks (37 :: a :: b :: r) = .esc (escOf a b) :: toks r := toks_esc (told_of a b r ha hb)

/-- What a byte may be in a name. -/
def okChar (c : UInt8) : Bool := decide (32 ≤ byt c) && decide (byt c < 127) && decide (byt c ≠ 92)
theorem sign_facts (c : UInt8) : sign c = true → okChar c = true ∧ c ≠ 37 ∧ c ≠ 47 :=
  all_bytes (p := fun c => sign c = true → okChar c = true ∧ c ≠ 37 ∧ c ≠ 47) (by decide +kernel) c
theorem plain_facts (c : UInt8) : plain c = true → sign c = true ∧ c ≠ 37 :=
  all_bytes (p := fun c => plain c = true → sign c = true ∧ c ≠ 37) (by decide +kernel) c
theorem digit_facts (a : UInt8) : 0 ≤ digit a → a ≠ 47 ∧ a ≠ 46 ∧ okChar a = true ∧ fold1 (hexd (digit a).toNat) = fold1 a :=
  all_bytes (p := fun a => 0 ≤ digit a → a ≠ 47 ∧ a ≠ 46 ∧ okChar a = true ∧ fold1 (hexd (digit a).toNat) = fold1 a) (by decide +kernel) a
theorem hex_facts (v : UInt8) : digit (hexd (v.toNat / 16)) = (v.toNat / 16 : Nat) ∧ digit (hexd (v.toNat % 16)) = (v.toNat % 16 : Nat) :=
  all_bytes (p := fun v => digit (hexd (v.toNat / 16)) = (v.toNat / 16 : Nat) ∧ digit (hexd (v.toNat % 16)) = (v.toNat % 16 : Nat)) (by decide +kernel) v
theorem toks_pct (v : UInt8) (r : List UInt8) : toks (pct v ++ r) = .esc v :: toks r := by
  obtain ⟨h1, h2⟩ := hex_facts v
  show toks (37 :: hexd (v.toNat / 16) :: hexd (v.toNat % 16) :: r) = _
  rw [toks_hex r (by rw [h1]; omega) (by rw [h2]; omega)]
  unfold escOf
  rw [h1, h2]
  have : (16 * ((v.toNat / 16 : Nat) : Int) + ((v.toNat % 16 : Nat) : Int)).toNat = v.toNat := by omega
  rw [this]; simp
/-- A sign of the normal text. -/
def retok : Tok → Tok
  | .esc v => if plain v then .raw v else .esc v
  | .raw c => if sign c || decide (byt c = 47) then .raw c else .esc c
theorem slash_byt {c : UInt8} : byt c = 47 ↔ c = 47 := ⟨fun h => byt_inj h, fun h => by rw [h]; rfl⟩
theorem toks_norm1 (t : Tok) (r : List UInt8) : toks (normTok t ++ r) = retok t :: toks r := by
  cases t with
  | esc v =>
    rw [norm_esc]
    show _ = (if plain v then Tok.raw v else Tok.esc v) :: toks r
    cases hp : plain v with
    | true => exact toks_raw (told_other r (plain_facts v hp).2)
    | false => exact toks_pct v r
  | raw c =>
    rw [norm_raw]
    show _ = (if sign c || decide (byt c = 47) then Tok.raw c else Tok.esc c) :: toks r
    by_cases h : (sign c || decide (byt c = 47)) = true
    · rw [if_pos h, if_pos h]
      refine toks_raw (told_other r ?_)
      simp only [Bool.or_eq_true, decide_eq_true_eq] at h
      rcases h with h | h
      · exact (sign_facts c h).2.1
      · rw [slash_byt] at h; rw [h]; decide
    · rw [if_neg h, if_neg h]
      exact toks_pct c r
theorem toks_flat (ts : List Tok) : toks (ts.flatMap normTok) = ts.map retok := by
  induction ts with
  | nil => rfl
  | cons t r ih => rw [List.flatMap_cons, toks_norm1, ih]; rfl
theorem toks_norm (l : List UInt8) : toks (normL l) = (toks l).map retok := toks_flat _
theorem norm_retok (t : Tok) : normTok (retok t) = normTok t := by
  cases t with
  | esc v =>
    show normTok (if plain v then Tok.raw v else Tok.esc v) = _
    cases hp : plain v with
    | true =>
      show normTok (.raw v) = _
      rw [norm_raw, norm_esc, hp, (plain_facts v hp).1]; rfl
    | false => rfl
  | raw c =>
    show normTok (if sign c || decide (byt c = 47) then Tok.raw c else Tok.esc c) = _
    by_cases h : (sign c || decide (byt c = 47)) = true
    · rw [if_pos h]
    · rw [if_neg h, norm_raw, if_neg h, norm_esc]
      have hp : plain c = false := by
        cases hp : plain c with
        | false => rfl
        | true => exact absurd (by rw [(plain_facts c hp).1]; rfl) h
      rw [hp]; rfl
theorem norm_twice (l : List UInt8) : normL (normL l) = normL l := by
  show (toks (normL l)).flatMap normTok = _
  rw [toks_norm, List.flatMap_map]
  show _ = (toks l).flatMap normTok
  congr 1
  funext t
  exact norm_retok t

/-- From sign to sign, with the byte ahead: is the rest right? -/
def scanT : UInt8 → List Tok → Bool
  | p, [] => !(decide (p = 47) || decide (p = 46))
  | p, .esc v :: ts => fine v && scanT 48 ts
  | p, .raw c :: ts => if c = 47 then !(decide (p = 47) || decide (p = 46)) && scanT 47 ts else sign c && scanT c ts
theorem scanT_prev {p q : UInt8} (h : (p = 47 ∨ p = 46) ↔ (q = 47 ∨ q = 46)) (ts : List Tok) : scanT p ts = scanT q ts := by
  have hd : (decide (p = 47) || decide (p = 46)) = (decide (q = 47) || decide (q = 46)) := by
    rw [← Bool.decide_or, ← Bool.decide_or]; exact decide_eq_decide.2 h
  cases ts with
  | nil => simp only [scanT, hd]
  | cons t r =>
    cases t with
    | esc v => rfl
    | raw c => simp only [scanT, hd]
def okT : Tok → Prop
  | .esc v => plain v = false
  | .raw c => sign c = true ∨ c = 47
theorem fine_plain {v : UInt8} (h : fine v = true) : plain v = false := by
  cases hp : plain v with
  | false => rfl
  | true => unfold fine at h; rw [hp] at h; simp at h
theorem scanT_ok (ts : List Tok) : ∀ p, scanT p ts = true → ∀ t ∈ ts, okT t := by
  induction ts with
  | nil => intro p _ t ht; cases ht
  | cons t r ih =>
    intro p h u hu
    cases t with
    | esc v =>
      simp only [scanT, Bool.and_eq_true] at h
      rcases List.mem_cons.1 hu with rfl | hu
      · exact fine_plain h.1
      · exact ih _ h.2 u hu
    | raw c =>
      by_cases hc : c = 47
      · simp only [scanT, if_pos hc, Bool.and_eq_true] at h
        rcases List.mem_cons.1 hu with rfl | hu
        · exact .inr hc
        · exact ih _ h.2 u hu
      · simp only [scanT, if_neg hc, Bool.and_eq_true] at h
        rcases List.mem_cons.1 hu with rfl | hu
        · exact .inl h.1
        · exact ih _ h.2 u hu
theorem retok_ok {t : Tok} (h : okT t) : retok t = t := by
  cases t with
  | esc v => show (if plain v then Tok.raw v else Tok.esc v) = _; rw [show plain v = false from h]; rfl
  | raw c =>
    show (if sign c || decide (byt c = 47) then Tok.raw c else Tok.esc c) = _
    have : (sign c || decide (byt c = 47)) = true := by
      rcases h with h | h
      · rw [h]; rfl
      · rw [decide_eq_true (slash_byt.2 h), Bool.or_true]
    rw [if_pos this]
def lenT : Tok → Nat
  | .esc _ => 3
  | .raw _ => 1
theorem len_toks : ∀ l, l.length = ((toks l).map lenT).sum := by
  refine toks_ind rfl (fun c r h ih => ?_) (fun a b r ha hb ih => ?_)
  · rw [toks_raw h, List.map_cons, List.sum_cons, ← ih, List.length_cons]
    show r.length + 1 = 1 + r.length; omega
  · rw [toks_hex r ha hb, List.map_cons, List.sum_cons, ← ih]
    simp only [List.length_cons]
    show r.length + 1 + 1 + 1 = 3 + r.length; omega
/-- The first piece: is its end right? -/
def endOk (p : UInt8) (h : List UInt8) : Bool := if h = [] then !(decide (p = 47) || decide (p = 46)) else !(List.isSuffixOf [46] h)
theorem suffix_cons (c d : UInt8) (r : List UInt8) : List.isSuffixOf [46] (c :: d :: r) = List.isSuffixOf [46] (d :: r) := by
  have e : ∀ l : List UInt8, List.isSuffixOf [46] l = true ↔ [46] <:+ l := fun l => List.isSuffixOf_iff_suffix
  have : List.isSuffixOf [46] (c :: d :: r) = true ↔ List.isSuffixOf [46] (d :: r) = true := by
    rw [e, e, List.suffix_cons_iff]
    constructor
    · rintro (h | h)
      · simp at h
      · exact h
    · exact fun h => .inr h
  cases h1 : List.isSuffixOf [46] (c :: d :: r) with
  | true => rw [this.1 h1]
  | false =>
    cases h2 : List.isSuffixOf [46] (d :: r) with
    | true => rw [this.2 h2] at h1; cases h1
    | false => rfl
theorem suffix_one (c : UInt8) : List.isSuffixOf [46] [c] = decide (c = 46) := by
  by_cases h : c = 46
  · subst h; rfl
  · have h2 : ¬ (46 : UInt8) = c := fun e => h e.symm
    rw [decide_eq_false h]
    simp [List.isSuffixOf, List.isPrefixOf, h2]
theorem split_prefix (l : List UInt8) : ∀ h tl, splitL l = h :: tl → ∃ m, l = h ++ m := by
  induction l with
  | nil => intro h tl e; injection e with e1 e2; exact ⟨[], by rw [← e1]; rfl⟩
  | cons c r ih =>
    intro h tl e
    simp only [splitL] at e
    by_cases hc : c = 47
    · rw [if_pos hc] at e
      injection e with e1 e2
      exact ⟨c :: r, by rw [← e1]; rfl⟩
    · rw [if_neg hc] at e
      cases hs : splitL r with
      | nil => exact absurd hs (splitL_ne r)
      | cons h' tl' =>
        rw [hs] at e
        injection e with e1 e2
        obtain ⟨m, hm⟩ := ih h' tl' hs
        exact ⟨m, by rw [← e1, hm]; rfl⟩
theorem told_prefix {c : UInt8} {h m : List UInt8} (hn : toldV (c :: (h ++ m)) = none) : toldV (c :: h) = none := by
  cases hv : toldV (c :: h) with
  | none => rfl
  | some v =>
    obtain ⟨a, b, r, he, ha, hb, _⟩ := told_some hv
    have : c :: (h ++ m) = 37 :: a :: b :: (r ++ m) := by
      have : c :: (h ++ m) = (c :: h) ++ m := rfl
      rw [this, he]; rfl
    rw [this, told_of a b _ ha hb] at hn
    cases hn
theorem seg_is (h : List UInt8) : ((toks h).all segTok && endOk 47 h) = segB h := by
  unfold segB endOk
  by_cases he : h = []
  · subst he; rfl
  · rw [if_neg he]
    have : h.isEmpty = false := by cases h with
      | nil => exact absurd rfl he
      | cons _ _ => rfl
    rw [this]
    cases (toks h).all segTok <;> cases List.isSuffixOf [46] h <;> rfl
theorem scan_split : ∀ (l : List UInt8) (p : UInt8) (h : List UInt8) (tl : List (List UInt8)), splitL l = h :: tl → scanT p (toks l) = ((toks h).all segTok && endOk p h && tl.all segB) := by
  refine toks_ind (P := fun l => ∀ (p : UInt8) (h : List UInt8) (tl : List (List UInt8)), splitL l = h :: tl → scanT p (toks l) = ((toks h).all segTok && endOk p h && tl.all segB)) ?_ ?_ ?_
  · intro p h tl e
    injection e with e1 e2
    subst e1; subst e2
    show scanT p [] = _
    simp [scanT, toks_nil, endOk]
  · intro c r hn ih p h tl e
    rw [toks_raw hn]
    simp only [splitL] at e
    by_cases hc : c = 47
    · rw [if_pos hc] at e
      injection e with e1 e2
      subst e1
      cases hs : splitL r with
      | nil => exact absurd hs (splitL_ne r)
      | cons h' tl' =>
        rw [hs] at e2
        subst e2
        have := ih 47 h' tl' hs
        simp only [scanT, if_pos hc]
        rw [this, seg_is]
        simp [toks_nil, endOk]
    · rw [if_neg hc] at e
      cases hs : splitL r with
      | nil => exact absurd hs (splitL_ne r)
      | cons h' tl' =>
        rw [hs] at e
        injection e with e1 e2
        subst e1; subst e2
        obtain ⟨m, hm⟩ := split_prefix r h' tl' hs
        have hn2 : toldV (c :: h') = none := told_prefix (m := m) (by rw [← hm]; exact hn)
        rw [toks_raw hn2]
        simp only [scanT, if_neg hc, List.all_cons]
        rw [ih c h' tl' hs]
        have hend : endOk c h' = endOk p (c :: h') := by
          unfold endOk
          rw [if_neg (by simp : ¬ c :: h' = [])]
          cases h' with
          | nil => rw [if_pos rfl, suffix_one, decide_eq_false hc]; rfl
          | cons d r' => rw [if_neg (by simp : ¬ d :: r' = []), suffix_cons]
        rw [hend]
        show (sign c && _) = (sign c && _ && _ && _)
        cases sign c <;> simp
  · intro a b r ha hb ih p h tl e
    rw [toks_hex r ha hb]
    have ha2 := digit_facts a ha; have hb2 := digit_facts b hb
    cases hs : splitL r with
    | nil => exact absurd hs (splitL_ne r)
    | cons h' tl' =>
      have e' : splitL (37 :: a :: b :: r) = (37 :: a :: b :: h') :: tl' := by
        simp only [splitL]
        rw [if_neg (by decide), if_neg ha2.1, if_neg hb2.1, hs]
      rw [e'] at e
      injection e with e1 e2
      subst e1; subst e2
      rw [toks_hex h' ha hb]
      simp only [scanT, List.all_cons]
      rw [scanT_prev (q := b) (by constructor <;> (rintro (h | h)); exact absurd h (by decide); exact absurd h (by decide); exact absurd h hb2.1; exact absurd h hb2.2.1) (toks r), ih b h' tl' hs]
      have hend : endOk b h' = endOk p (37 :: a :: b :: h') := by
        unfold endOk
        rw [if_neg (by simp : ¬ 37 :: a :: b :: h' = []), suffix_cons, suffix_cons]
        cases h' with
        | nil => rw [if_pos rfl, suffix_one, decide_eq_false hb2.1]; rfl
        | cons d r' => rw [if_neg (by simp : ¬ d :: r' = []), suffix_cons]
      rw [hend]
      show (fine _ && _) = (fine _ && _ && _ && _)
      cases fine (escOf a b) <;> simp
/-- A part's name, from sign to sign. -/
theorem right_scan (r : List UInt8) : rightB (47 :: r) = (decide (1 ≤ r.length ∧ r.length ≤ 254) && scanT 47 (toks r)) := by
  show (decide ((47 : UInt8) = 47) && decide (1 ≤ r.length ∧ r.length ≤ 254) && (splitL r).all segB) = _
  rw [decide_eq_true rfl, Bool.true_and]
  congr 1
  cases hs : splitL r with
  | nil => exact absurd hs (splitL_ne r)
  | cons h tl => rw [scan_split r 47 h tl hs, seg_is]; rfl
theorem right_head {l : List UInt8} (h : rightB l = true) : ∃ r, l = 47 :: r := by
  cases l with
  | nil => simp [rightB] at h
  | cons c r =>
    have h2 : (decide (c = 47) && decide (1 ≤ r.length ∧ r.length ≤ 254) && (splitL r).all segB) = true := h
    simp only [Bool.and_eq_true, decide_eq_true_eq] at h2
    exact ⟨r, by rw [h2.1.1]⟩
theorem norm_slash (r : List UInt8) : normL (47 :: r) = 47 :: normL r := by
  show (toks (47 :: r)).flatMap normTok = _
  rw [toks_raw (told_other r (by decide)), List.flatMap_cons]; rfl
/-- A right name is its own normal one, but for letters behind %. -/
theorem right_norm {l : List UInt8} (h : rightB l = true) : rightB (normL l) = true ∧ foldL (normL l) = foldL l := by
  obtain ⟨r, rfl⟩ := right_head h
  rw [right_scan] at h
  simp only [Bool.and_eq_true, decide_eq_true_eq] at h
  have hok := scanT_ok _ _ h.2
  have htk : toks (normL r) = toks r := by
    rw [toks_norm]
    conv => rhs; rw [← List.map_id (toks r)]
    exact List.map_congr_left fun t ht => retok_ok (hok t ht)
  have hlen : (normL r).length = r.length := by rw [len_toks (normL r), htk, ← len_toks r]
  rw [norm_slash, right_scan, hlen, htk, decide_eq_true h.1, h.2]
  refine ⟨rfl, ?_⟩
  have hf : ∀ r : List UInt8, (∀ t ∈ toks r, okT t) → foldL (normL r) = foldL r := by
    refine toks_ind (P := fun r => (∀ t ∈ toks r, okT t) → foldL (normL r) = foldL r) (fun _ => rfl) (fun c r hn ih hk => ?_) (fun a b r ha hb ih hk => ?_)
    · rw [toks_raw hn] at hk
      have h1 := hk _ (List.mem_cons_self ..)
      have h2 := ih (fun t ht => hk t (List.mem_cons_of_mem _ ht))
      have : normL (c :: r) = normTok (.raw c) ++ normL r := by
        show (toks (c :: r)).flatMap normTok = _
        rw [toks_raw hn, List.flatMap_cons]; rfl
      have hnt : normTok (.raw c) = [c] := by
        rw [norm_raw]
        have : (sign c || decide (byt c = 47)) = true := by
          rcases h1 with h | h
          · rw [h]; rfl
          · rw [decide_eq_true (slash_byt.2 h), Bool.or_true]
        rw [if_pos this]
      rw [this, hnt]
      show fold1 c :: foldL (normL r) = fold1 c :: foldL r
      rw [h2]
    · rw [toks_hex r ha hb] at hk
      have h1 := hk _ (List.mem_cons_self ..)
      have h2 := ih (fun t ht => hk t (List.mem_cons_of_mem _ ht))
      have : normL (37 :: a :: b :: r) = normTok (.esc (escOf a b)) ++ normL r := by
        show (toks (37 :: a :: b :: r)).flatMap normTok = _
        rw [toks_hex r ha hb, List.flatMap_cons]; rfl
      have hnt : normTok (.esc (escOf a b)) = pct (escOf a b) := by
        rw [norm_esc, show plain (escOf a b) = false from h1]; rfl
      have ra := digit_range a; have rb := digit_range b
      have hv : (escOf a b).toNat = (16 * digit a + digit b).toNat := by
        unfold escOf
        exact UInt8.toNat_ofNat_of_lt' (by show _ < 256; omega)
      have hp : foldL (pct (escOf a b)) = [fold1 37, fold1 a, fold1 b] := by
        show [fold1 37, fold1 (hexd ((escOf a b).toNat / 16)), fold1 (hexd ((escOf a b).toNat % 16))] = _
        rw [hv, show (16 * digit a + digit b).toNat / 16 = (digit a).toNat by omega, show (16 * digit a + digit b).toNat % 16 = (digit b).toNat by omega, (digit_facts a ha).2.2.2, (digit_facts b hb).2.2.2]
      rw [this, hnt]
      show foldL (pct (escOf a b) ++ normL r) = [fold1 37, fold1 a, fold1 b] ++ foldL r
      rw [← hp, ← h2]
      unfold foldL; rw [List.map_append]
  show fold1 47 :: foldL (normL r) = fold1 47 :: foldL r
  rw [hf r hok]
theorem right_chars : ∀ (r : List UInt8) (p : UInt8), scanT p (toks r) = true → ∀ c ∈ r, okChar c = true := by
  refine toks_ind (P := fun r => ∀ (p : UInt8), scanT p (toks r) = true → ∀ c ∈ r, okChar c = true) (fun p _ c hc => by cases hc) (fun c r hn ih p h d hd => ?_) (fun a b r ha hb ih p h d hd => ?_)
  · rw [toks_raw hn] at h
    by_cases hc : c = 47
    · simp only [scanT, if_pos hc, Bool.and_eq_true] at h
      rcases List.mem_cons.1 hd with rfl | hd
      · rw [hc]; decide
      · exact ih _ h.2 d hd
    · simp only [scanT, if_neg hc, Bool.and_eq_true] at h
      rcases List.mem_cons.1 hd with rfl | hd
      · exact (sign_facts _ h.1).1
      · exact ih _ h.2 d hd
  · rw [toks_hex r ha hb] at h
    simp only [scanT, Bool.and_eq_true] at h
    simp only [List.mem_cons] at hd
    rcases hd with rfl | rfl | rfl | hd
    · decide
    · exact (digit_facts _ ha).2.2.1
    · exact (digit_facts _ hb).2.2.1
    · exact ih _ h.2 d hd
theorem right_last {l : List UInt8} (h : rightB l = true) : lastP l 47 < l.length := by
  obtain ⟨r, rfl⟩ := right_head h
  have h2 : (decide ((47 : UInt8) = 47) && decide (1 ≤ r.length ∧ r.length ≤ 254) && (splitL r).all segB) = true := h
  simp only [Bool.and_eq_true, decide_eq_true_eq] at h2
  have hne : ∀ x ∈ splitL r, x ≠ [] := fun x hx e => by
    have := List.all_eq_true.1 h2.2 x hx
    rw [e] at this; simp [segB] at this
  have hQ : ∀ r : List UInt8, (∀ x ∈ (splitL r).tail, x ≠ []) → r.getLast? ≠ some 47 := by
    intro r
    induction r with
    | nil => intro _; simp
    | cons c r ih =>
      intro hx
      by_cases hc : c = 47
      · have e : splitL (c :: r) = [] :: splitL r := by simp only [splitL]; rw [if_pos hc]
        rw [e] at hx
        have h3 := ih (fun x hm => hx x (List.mem_of_mem_tail hm))
        cases r with
        | nil => exact absurd rfl (hx [] (by show [] ∈ [[]]; simp))
        | cons d r' => rw [List.getLast?_cons_cons]; exact h3
      · have e : (splitL (c :: r)).tail = (splitL r).tail := by
          simp only [splitL]; rw [if_neg hc]
          cases hs : splitL r with
          | nil => exact absurd hs (splitL_ne r)
          | cons h' tl' => rfl
        rw [e] at hx
        have h3 := ih hx
        cases r with
        | nil => simp; exact hc
        | cons d r' => rw [List.getLast?_cons_cons]; exact h3
  have hl := hQ r (fun x hm => hne x (List.mem_of_mem_tail hm))
  have hr0 : r ≠ [] := fun e => by rw [e] at h2; simp at h2
  rcases lastP_is (47 :: r) 47 with ⟨h0, _⟩ | ⟨q, h0, hq, _⟩
  · rw [h0]; simp
  · have hle := lastP_le (47 :: r) 47
    rcases Nat.lt_or_ge (lastP (47 :: r) 47) (47 :: r).length with h3 | h3
    · exact h3
    · have hqe : q = r.length := by rw [h0] at h3 hle; simp only [List.length_cons] at h3 hle; omega
      cases r with
      | nil => exact absurd rfl hr0
      | cons d r' =>
        rw [hqe] at hq
        have h4 : (47 :: d :: r')[(d :: r').length]? = (d :: r').getLast? := by
          rw [List.getLast?_eq_getElem?]; rfl
        rw [h4] at hq
        exact absurd hq hl
end Go.Proofs.YthedhominhgeaaaDoor
