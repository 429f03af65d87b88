/- What is read is written as it was; what is written is read as it was: in plain words, no program in sight. -/
import Derived.Test.YtgapahmjcladlaaSamF
namespace Go.Proofs.Ytgapahmjcladlaa
open Go.RowKit
set_option linter.unusedVariables false

theorem part_len {bs : List UInt8} {p k : Nat} (h : p + k ≤ bs.length) : ((bs.drop p).take k).length = k := by
  rw [List.length_take, List.length_drop]; omega
theorem leB_part (bs : List UInt8) (p k : Nat) (h : p + k ≤ bs.length) : leB (leV ((bs.drop p).take k)) k = (bs.drop p).take k := by
  have := leB_leV ((bs.drop p).take k)
  rwa [part_len h] at this
theorem leV_part_lt (bs : List UInt8) (p k : Nat) (h : p + k ≤ bs.length) : leV ((bs.drop p).take k) < 256 ^ k := by
  have := leV_lt ((bs.drop p).take k)
  rwa [part_len h] at this
theorem readOne_enc {bs : List UInt8} {p : Nat} {fs : List Fl} {M : Nat} {k : Int} {f : Fl} {q : Nat} (h : readOne bs p fs M k = some (f, q)) (hp : p ≤ bs.length) :
    p ≤ q ∧ q ≤ bs.length ∧ encF f = (bs.drop p).take (q - p) ∧ f.n < 4294967296 ∧ f.b.length ≤ bs.length := by
  by_cases k0 : k = 0
  · subst k0
    unfold readOne at h
    rw [if_pos rfl] at h
    by_cases hr : p + 2 ≤ bs.length
    · rw [if_pos hr] at h
      injection h with h
      injection h with h1 h2
      subst h1; subst h2
      have := leV_part_lt bs p 2 hr
      refine ⟨by omega, hr, ?_, by show leV ((bs.drop p).take 2) < _; omega, by simp⟩
      rw [show p + 2 - p = 2 by omega]
      exact leB_part bs p 2 hr
    · rw [if_neg hr] at h; cases h
  by_cases k1 : k = 1
  · subst k1
    unfold readOne at h
    rw [if_neg (by decide), if_pos rfl] at h
    by_cases hr : p + 4 ≤ bs.length
    · rw [if_pos hr] at h
      injection h with h
      injection h with h1 h2
      subst h1; subst h2
      have := leV_part_lt bs p 4 hr
      refine ⟨by omega, hr, ?_, by show leV ((bs.drop p).take 4) < _; omega, by simp⟩
      rw [show p + 4 - p = 4 by omega]
      exact leB_part bs p 4 hr
    · rw [if_neg hr] at h; cases h
  by_cases k2 : k = 2
  · subst k2
    rw [read_2] at h
    cases ht : told fs M with
    | none => rw [ht] at h; cases h
    | some t =>
      rw [ht] at h
      dsimp only at h
      by_cases hr : p + t ≤ bs.length
      · rw [if_pos hr] at h
        injection h with h
        injection h with h1 h2
        subst h1; subst h2
        refine ⟨by omega, hr, ?_, by show 0 < _; omega, by show ((bs.drop p).take t).length ≤ _; rw [part_len hr]; omega⟩
        rw [show p + t - p = t by omega]; rfl
      · rw [if_neg hr] at h; cases h
  by_cases k3 : k = 3
  · subst k3
    rw [read_3 bs p fs M (bs.length - p) (by omega)] at h
    injection h with h
    injection h with h1 h2
    subst h1; subst h2
    refine ⟨by omega, by omega, ?_, by show 0 < _; omega, by show ((bs.drop p).take (bs.length - p)).length ≤ _; rw [part_len (by omega)]; omega⟩
    rw [show p + (bs.length - p) - p = bs.length - p by omega]; rfl
  rw [read_x bs p fs M k0 k1 k2 k3] at h; cases h
theorem take_more (bs : List UInt8) {p q r : Nat} (h1 : p ≤ q) (h2 : q ≤ r) (h3 : r ≤ bs.length) : (bs.drop p).take (q - p) ++ (bs.drop q).take (r - q) = (bs.drop p).take (r - p) := by
  rw [show r - p = (q - p) + (r - q) by omega, List.take_add, List.drop_drop, show p + (q - p) = q by omega]
theorem readAll_write (bs : List UInt8) (M : Nat) (ks : List Int) : ∀ (p : Nat) (fs0 : List Fl) (fs : List Fl) (q : Nat), readAll bs M p fs0 ks = some (fs, q) → p ≤ bs.length → (∀ f ∈ fs0, f.n < 4294967296 ∧ f.b.length ≤ bs.length) →
    p ≤ q ∧ q ≤ bs.length ∧ writeV fs = writeV fs0 ++ (bs.drop p).take (q - p) ∧ (∀ f ∈ fs, f.n < 4294967296 ∧ f.b.length ≤ bs.length) ∧ fs.length = fs0.length + ks.length := by
  induction ks with
  | nil =>
    intro p fs0 fs q h hp hf
    simp only [readAll] at h
    injection h with h
    injection h with h1 h2
    subst h1; subst h2
    exact ⟨Nat.le_refl _, hp, by simp, hf, by simp⟩
  | cons k r ih =>
    intro p fs0 fs q h hp hf
    simp only [readAll] at h
    cases hr : readOne bs p fs0 M k with
    | none => rw [hr] at h; cases h
    | some x =>
      obtain ⟨f, q1⟩ := x
      rw [hr] at h
      obtain ⟨e1, e2, e3, e4, e5⟩ := readOne_enc hr hp
      obtain ⟨d1, d2, d3, d4, d5⟩ := ih q1 (fs0 ++ [f]) fs q h e2 (fun g hg => by
        rcases List.mem_append.1 hg with hg | hg
        · exact hf g hg
        · simp at hg; subst hg; exact ⟨e4, e5⟩)
      refine ⟨by omega, d2, ?_, d4, by rw [d5]; simp; omega⟩
      rw [d3, writeV_app, List.append_assoc]
      congr 1
      show (encF f ++ []) ++ _ = _
      rw [List.append_nil, e3, take_more bs e1 d1 d2]
theorem readV_write {bs : List UInt8} {p : Int} {ks : List Int} {fs : List Fl} {q : Nat} (h : readV bs p ks = some (fs, q)) :
    ∃ p' : Nat, p = p' ∧ p' ≤ q ∧ q ≤ bs.length ∧ writeV fs = (bs.drop p').take (q - p') ∧ (∀ f ∈ fs, f.n < 4294967296 ∧ f.b.length ≤ bs.length) ∧ fs.length = ks.length := by
  unfold readV at h
  by_cases hp : 0 ≤ p ∧ p ≤ bs.length
  · rw [if_pos hp] at h
    obtain ⟨h1, h2, h3, h4, h5⟩ := readAll_write bs (cnt ks) ks p.toNat [] fs q h (by omega) (fun f hf => by cases hf)
    exact ⟨p.toNat, by omega, h1, h2, by simpa [writeV] using h3, h4, by simpa using h5⟩
  · rw [if_neg hp] at h; cases h

/-- The numbers' fields, and the bytes' fields. -/
def nflds (kd : Int) (ls : List (List UInt8)) : List Fl := ls.map fun l => ⟨kd, l.length, []⟩
def bflds (ls : List (List UInt8)) : List Fl := ls.map fun l => ⟨2, 0, l⟩
theorem cnt_app (xs ys : List Int) : cnt (xs ++ ys) = cnt xs + cnt ys := by
  induction xs with
  | nil => simp [cnt]
  | cons x r ih => simp only [List.cons_append, cnt, ih]; omega
theorem cnt_rep (n : Nat) (k : Int) : cnt (List.replicate n k) = if k = 2 then n else 0 := by
  induction n with
  | zero => simp [cnt]
  | succ n ih => rw [List.replicate_succ, cnt, ih]; split <;> omega
theorem take_front (x y : List UInt8) : (x ++ y).take x.length = x := by simp
theorem take_frontN {x : List UInt8} (y : List UInt8) {n : Nat} (h : x.length = n) : (x ++ y).take n = x := by subst h; simp
theorem drop_frontN {x : List UInt8} (y : List UInt8) {n : Nat} (h : x.length = n) : (x ++ y).drop n = y := by subst h; simp
/-- A number in front is read. -/
theorem read_num {bs : List UInt8} {p : Nat} {fs : List Fl} {M : Nat} {kd : Int} (hk : kd = 0 ∨ kd = 1) {l : List UInt8} {t : List UInt8} (hl : l.length ≤ 1000) (hp : p ≤ bs.length) (hd : bs.drop p = encF ⟨kd, l.length, []⟩ ++ t) :
    ∃ q, readOne bs p fs M kd = some (⟨kd, l.length, []⟩, q) ∧ bs.drop q = t ∧ q ≤ bs.length := by
  have hlen := congrArg List.length hd
  rw [List.length_drop, List.length_append] at hlen
  rcases hk with rfl | rfl
  · have e : encF ⟨0, l.length, []⟩ = leB l.length 2 := rfl
    rw [e] at hd hlen
    rw [leB_len] at hlen
    refine ⟨p + 2, ?_, ?_, by omega⟩
    · unfold readOne
      rw [if_pos rfl, if_pos (by omega), hd, take_frontN _ (leB_len _ _), leV_leB _ _ (by omega)]
    · rw [← List.drop_drop, hd, drop_frontN _ (leB_len _ _)]
  · have e : encF ⟨1, l.length, []⟩ = leB l.length 4 := rfl
    rw [e] at hd hlen
    rw [leB_len] at hlen
    refine ⟨p + 4, ?_, ?_, by omega⟩
    · unfold readOne
      rw [if_neg (by decide), if_pos rfl, if_pos (by omega), hd, take_frontN _ (leB_len _ _), leV_leB _ _ (by omega)]
    · rw [← List.drop_drop, hd, drop_frontN _ (leB_len _ _)]
theorem read_nums {bs : List UInt8} {M : Nat} {kd : Int} (hk : kd = 0 ∨ kd = 1) {t : List UInt8} (K : List Int) (ls : List (List UInt8)) : ∀ (p : Nat) (fs : List Fl), (∀ l ∈ ls, l.length ≤ 1000) → p ≤ bs.length → bs.drop p = writeV (nflds kd ls) ++ t →
    ∃ q, readAll bs M p fs (List.replicate ls.length kd ++ K) = readAll bs M q (fs ++ nflds kd ls) K ∧ bs.drop q = t ∧ q ≤ bs.length := by
  induction ls with
  | nil => intro p fs _ hp hd; exact ⟨p, by simp [nflds], by simpa [nflds, writeV] using hd, hp⟩
  | cons l r ih =>
    intro p fs hl hp hd
    have hd1 : bs.drop p = encF ⟨kd, l.length, []⟩ ++ (writeV (nflds kd r) ++ t) := by
      rw [hd, ← List.append_assoc]; rfl
    obtain ⟨q, h1, h2, h3⟩ := read_num (fs := fs) (M := M) hk (hl l (by simp)) hp hd1
    obtain ⟨q2, g1, g2, g3⟩ := ih q (fs ++ [⟨kd, l.length, []⟩]) (fun x hx => hl x (by simp [hx])) h3 h2
    refine ⟨q2, ?_, g2, g3⟩
    rw [List.length_cons, List.replicate_succ, List.cons_append]
    simp only [readAll, h1]
    rw [g1, List.append_assoc]; rfl
theorem nums_at {kd : Int} {ls : List (List UInt8)} {i : Nat} {l : List UInt8} (h : ls[i]? = some l) : (nflds kd ls)[i]? = some ⟨kd, l.length, []⟩ := by
  unfold nflds; rw [List.getElem?_map, h]; rfl
theorem read_rows {bs : List UInt8} {kd : Int} (hk : kd = 0 ∨ kd = 1) {t : List UInt8} (ls : List (List UInt8)) (K : List Int) : ∀ (todo : List (List UInt8)) (done : List (List UInt8)) (p : Nat), ls = done ++ todo → p ≤ bs.length → bs.drop p = writeV (bflds todo) ++ t →
    ∃ q, readAll bs ls.length p (nflds kd ls ++ bflds done) (List.replicate todo.length 2 ++ K) = readAll bs ls.length q (nflds kd ls ++ bflds ls) K ∧ bs.drop q = t ∧ q ≤ bs.length := by
  intro todo
  induction todo with
  | nil =>
    intro done p hls hp hd
    refine ⟨p, ?_, by simpa [bflds, writeV] using hd, hp⟩
    rw [List.append_nil] at hls
    rw [hls]; simp
  | cons l r ih =>
    intro done p hls hp hd
    have hd1 : bs.drop p = l ++ (writeV (bflds r) ++ t) := by
      rw [hd, ← List.append_assoc]; rfl
    have hlen := congrArg List.length hd1
    rw [List.length_drop, List.length_append] at hlen
    have hat : ls[done.length]? = some l := by rw [hls]; simp
    have hfl : (nflds kd ls ++ bflds done).length = ls.length + done.length := by simp [nflds, bflds]
    have hft : (nflds kd ls ++ bflds done)[done.length]? = some ⟨kd, l.length, []⟩ := by
      rw [List.getElem?_append_left (by rw [show (nflds kd ls).length = ls.length by simp [nflds], hls]; simp)]
      exact nums_at hat
    have h1 := read_2_yes bs p hfl hft (by show kd ≤ 1; omega) (by show p + l.length ≤ _; omega)
    have h2 : (bs.drop p).take l.length = l := by rw [hd1, take_front]
    obtain ⟨q2, g1, g2, g3⟩ := ih (done ++ [l]) (p + l.length) (by rw [hls]; simp) (by omega) (by rw [← List.drop_drop, hd1, List.drop_left])
    refine ⟨q2, ?_, g2, g3⟩
    rw [List.length_cons, List.replicate_succ, List.cons_append]
    simp only [readAll, h1]
    rw [h2, ← g1]
    congr 1
    simp [bflds]
theorem back_law {kd : Int} (hk : kd = 0 ∨ kd = 1) (ls : List (List UInt8)) (rest : List UInt8) (hl : ∀ l ∈ ls, l.length ≤ 1000) :
    readV (writeV (nflds kd ls ++ bflds ls) ++ rest) 0 (List.replicate ls.length kd ++ (List.replicate ls.length 2 ++ [3])) = some (nflds kd ls ++ bflds ls ++ [⟨3, 0, rest⟩], (writeV (nflds kd ls ++ bflds ls) ++ rest).length) := by
  obtain ⟨bs, hbs⟩ : ∃ bs, bs = writeV (nflds kd ls ++ bflds ls) ++ rest := ⟨_, rfl⟩
  rw [← hbs]
  unfold readV
  rw [if_pos ⟨by omega, by omega⟩]
  have hc : cnt (List.replicate ls.length kd ++ (List.replicate ls.length 2 ++ [3])) = ls.length := by
    rw [cnt_app, cnt_app, cnt_rep, cnt_rep, if_neg (by omega), if_pos rfl]
    show 0 + (ls.length + (0 + 0)) = _; omega
  rw [hc]
  obtain ⟨q, h1, h2, h3⟩ := read_nums (bs := bs) (M := ls.length) hk (t := writeV (bflds ls) ++ rest) (List.replicate ls.length 2 ++ [3]) ls 0 [] hl (by omega) (by
    show bs = _
    rw [hbs, writeV_app, List.append_assoc])
  rw [show (0 : Int).toNat = 0 from rfl, h1, List.nil_append]
  obtain ⟨q2, g1, g2, g3⟩ := read_rows (bs := bs) hk (t := rest) ls [3] ls [] q rfl h3 h2
  rw [show nflds kd ls = nflds kd ls ++ bflds [] by simp [bflds], g1]
  have hlen := congrArg List.length g2
  rw [List.length_drop] at hlen
  have h3' := read_3 bs q2 (nflds kd ls ++ bflds ls) ls.length rest.length (by omega)
  simp only [readAll, h3']
  rw [g2, List.take_length, show q2 + rest.length = bs.length by omega]
  simp [bflds]
end Go.Proofs.Ytgapahmjcladlaa
