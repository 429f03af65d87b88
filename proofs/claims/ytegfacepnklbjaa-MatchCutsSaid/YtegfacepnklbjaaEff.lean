/- The levels' efforts: what the call answers. -/
import Derived.Test.YtegfacepnklbjaaArr
namespace Go.Proofs.Ytegfacepnklbjaa
open Go.RowKit
set_option linter.unusedVariables false

def effL : List Value := [.int .i64 0, .int .i64 0, .bool false, .int .i64 4, .int .i64 16, .bool false, .int .i64 8, .int .i64 32, .bool false, .int .i64 16, .int .i64 64, .bool false, .int .i64 16, .int .i64 64, .bool true, .int .i64 32, .int .i64 96, .bool true, .int .i64 64, .int .i64 128, .bool true, .int .i64 128, .int .i64 258, .bool true, .int .i64 512, .int .i64 258, .bool true, .int .i64 4096, .int .i64 258, .bool true]
def effF (i : Nat) : Value := effL.getD i (.bool false)
def zerL : List Value := [.int .i64 0, .int .i64 0, .bool false, .int .i64 0, .int .i64 0, .bool false, .int .i64 0, .int .i64 0, .bool false, .int .i64 0, .int .i64 0, .bool false, .int .i64 0, .int .i64 0, .bool false, .int .i64 0, .int .i64 0, .bool false, .int .i64 0, .int .i64 0, .bool false, .int .i64 0, .int .i64 0, .bool false, .int .i64 0, .int .i64 0, .bool false, .int .i64 0, .int .i64 0, .bool false]
def zerF (i : Nat) : Value := zerL.getD i (.bool false)
theorem zero53 : (Try.prog.info? 53).map (·.zero) = some (some (.agg (arr 30 zerF))) := by kernel_rfl
theorem size53 : (Try.prog.info? 53).map (·.size) = some 30 := by kernel_rfl
theorem eff_one : ∀ i, i < 30 → (effF i).oneCell' = true := by decide
theorem built53 : Try.prog.built 53 [(1, .agg #[.int .i64 4, .int .i64 16, .bool false]), (2, .agg #[.int .i64 8, .int .i64 32, .bool false]), (3, .agg #[.int .i64 16, .int .i64 64, .bool false]), (4, .agg #[.int .i64 16, .int .i64 64, .bool true]), (5, .agg #[.int .i64 32, .int .i64 96, .bool true]), (6, .agg #[.int .i64 64, .int .i64 128, .bool true]), (7, .agg #[.int .i64 128, .int .i64 258, .bool true]), (8, .agg #[.int .i64 512, .int .i64 258, .bool true]), (9, .agg #[.int .i64 4096, .int .i64 258, .bool true])] = some (arr 30 effF) := by kernel_rfl

theorem below_of_grown' {w w1 w2 : World} {g : Nat} (h : Below w.heap.size w w1) (hg : w1.grownBy w2 (some (w.heap.size + g))) : Below w.heap.size w w2 :=
  h.grown hg h.size fun k hk => by injection hk with hk; omega
set_option maxHeartbeats 1000000 in
theorem eff_mid (k : Nat) (hk : k ≤ 9) (a b : Int) (z : Bool) (E0 : Hid (effF (k * 3) = .int .i64 a)) (E1 : Hid (effF (k * 3 + 1) = .int .i64 b)) (E2 : Hid (effF (k * 3 + 2) = .bool z)) (w : World) :
    Calls Try.prog 15 #[.int .i64 k] w fun e w' => e = .returned (.agg #[.int .i64 a, .int .i64 b, .bool z]) ∧ Below w.heap.size w w' := by
  have f2 : ¬ (9 : Int) < (k : Int) := by omega
  have f3 : (k : Int) < 10 := by omega
  go_enter Try.func15, Try.ntmps15
  go_wp2_with (first
    | (refine wpList_build_as rfl 53 #[(1, .tmp 4), (2, .tmp 5), (3, .tmp 6), (4, .tmp 7), (5, .tmp 8), (6, .tmp 9), (7, .tmp 10), (8, .tmp 11), (9, .tmp 12)] rfl [(1, .agg #[.int .i64 4, .int .i64 16, .bool false]), (2, .agg #[.int .i64 8, .int .i64 32, .bool false]), (3, .agg #[.int .i64 16, .int .i64 64, .bool false]), (4, .agg #[.int .i64 16, .int .i64 64, .bool true]), (5, .agg #[.int .i64 32, .int .i64 96, .bool true]), (6, .agg #[.int .i64 64, .int .i64 128, .bool true]), (7, .agg #[.int .i64 128, .int .i64 258, .bool true]), (8, .agg #[.int .i64 512, .int .i64 258, .bool true]), (9, .agg #[.int .i64 4096, .int .i64 258, .bool true])] (by simp only [List.map_toArray, List.map_cons, List.map_nil]; rfl) (arr 30 effF) built53 ?_)
    | (refine wpList_alloc_row rfl 53 30 zerF rfl zero53 ?_; intro w1 hs1 hr1 hb1)
    | (refine wpList_store_arr rfl 53 (.tmp 3) (.tmp 13) rfl _ 30 zerF effF 53 rfl rfl hr1 size53 eff_one ?rest)
    | go_in)
  case rest =>
    intro w2 hs2 hr2 hg2
    have hk2 : w2.heap[w.heap.size]? = some (.cells #[.int .i64 0, .int .i64 0, .bool false] 43 (0, 0)) := (by rw [hg2.block _ (by have := hs1.out; rw [World.size_alloc] at this; omega) (by simp), hb1.block _ (by simp)]; exact (MapKept.heap_alloc w _).1)
    have c0 : w2.cell? ⟨w.heap.size + 1, k * 3, none⟩ = some (.int .i64 a) := by rw [← E0.out]; exact hr2.cell (by omega)
    have c1 : w2.cell? ⟨w.heap.size + 1, k * 3 + 1, none⟩ = some (.int .i64 b) := by rw [← E1.out]; exact hr2.cell (by omega)
    have c2 : w2.cell? ⟨w.heap.size + 1, k * 3 + 2, none⟩ = some (.bool z) := by rw [← E2.out]; exact hr2.cell (by omega)
    have d0 : w2.cell? ⟨w.heap.size, 0, none⟩ = some (.int .i64 0) := by simp [World.cell?, hk2]
    have d1 : w2.cell? ⟨w.heap.size, 1, none⟩ = some (.int .i64 0) := by simp [World.cell?, hk2]
    have d2 : w2.cell? ⟨w.heap.size, 2, none⟩ = some (.bool false) := by simp [World.cell?, hk2]
    have f0 : w2.frozen? ⟨w.heap.size, 0, none⟩ = false := by simp [World.frozen?, hk2]
    have f1 : w2.frozen? ⟨w.heap.size, 1, none⟩ = false := by simp [World.frozen?, hk2]
    have f2 : w2.frozen? ⟨w.heap.size, 2, none⟩ = false := by simp [World.frozen?, hk2]
    have HK2 := Lib.hid hk2
    clear hk2 hs1 hr1 hr2 hs2
    have HG := Lib.hid hg2
    have HB := Lib.hid hb1
    clear hg2 hb1
    go_wp2_with fail
    refine bodyPost_ret (v := .agg #[.int .i64 a, .int .i64 b, .bool z]) (by simp [results, Try.f15, go_sem, d0, d1, d2]) rfl ⟨rfl, ?_⟩
    have h0 : Below w.heap.size w w2 := below_of_grown' (((Below.refl w.heap.size w).alloc (Nat.le_refl _) _).trans (HB.out.mono (by simp))) HG.out
    exact ((h0.setCell (Nat.le_refl _) _).setCell (Nat.le_refl _) _).setCell (Nat.le_refl _) _
set_option maxHeartbeats 1000000 in
theorem eff_lo (lv : Int) (h : lv < 0) (w : World) :
    Calls Try.prog 15 #[.int .i64 lv] w fun e w' => e = .returned (.agg #[.int .i64 0, .int .i64 0, .bool false]) ∧ Below w.heap.size w w' := by
  have f9 : ¬ 0 ≤ lv := by omega
  go_enter Try.func15, Try.ntmps15
  go_wp2_with (first
    | (refine wpList_build_as rfl 53 #[(1, .tmp 4), (2, .tmp 5), (3, .tmp 6), (4, .tmp 7), (5, .tmp 8), (6, .tmp 9), (7, .tmp 10), (8, .tmp 11), (9, .tmp 12)] rfl [(1, .agg #[.int .i64 4, .int .i64 16, .bool false]), (2, .agg #[.int .i64 8, .int .i64 32, .bool false]), (3, .agg #[.int .i64 16, .int .i64 64, .bool false]), (4, .agg #[.int .i64 16, .int .i64 64, .bool true]), (5, .agg #[.int .i64 32, .int .i64 96, .bool true]), (6, .agg #[.int .i64 64, .int .i64 128, .bool true]), (7, .agg #[.int .i64 128, .int .i64 258, .bool true]), (8, .agg #[.int .i64 512, .int .i64 258, .bool true]), (9, .agg #[.int .i64 4096, .int .i64 258, .bool true])] (by simp only [List.map_toArray, List.map_cons, List.map_nil]; rfl) (arr 30 effF) built53 ?_)
    | (refine wpList_alloc_row rfl 53 30 zerF rfl zero53 ?_; intro w1 hs1 hr1 hb1)
    | (refine wpList_store_arr rfl 53 (.tmp 3) (.tmp 13) rfl _ 30 zerF effF 53 rfl rfl hr1 size53 eff_one ?rest)
    | go_in)
  case rest =>
    intro w2 hs2 hr2 hg2
    have hk2 : w2.heap[w.heap.size]? = some (.cells #[.int .i64 0, .int .i64 0, .bool false] 43 (0, 0)) := (by rw [hg2.block _ (by have := hs1.out; rw [World.size_alloc] at this; omega) (by simp), hb1.block _ (by simp)]; exact (MapKept.heap_alloc w _).1)
    have c0 : w2.cell? ⟨w.heap.size + 1, 0, none⟩ = some (.int .i64 0) := hr2.cell (by omega)
    have c1 : w2.cell? ⟨w.heap.size + 1, 1, none⟩ = some (.int .i64 0) := hr2.cell (by omega)
    have c2 : w2.cell? ⟨w.heap.size + 1, 2, none⟩ = some (.bool false) := hr2.cell (by omega)
    have d0 : w2.cell? ⟨w.heap.size, 0, none⟩ = some (.int .i64 0) := by simp [World.cell?, hk2]
    have d1 : w2.cell? ⟨w.heap.size, 1, none⟩ = some (.int .i64 0) := by simp [World.cell?, hk2]
    have d2 : w2.cell? ⟨w.heap.size, 2, none⟩ = some (.bool false) := by simp [World.cell?, hk2]
    have f0 : w2.frozen? ⟨w.heap.size, 0, none⟩ = false := by simp [World.frozen?, hk2]
    have f1 : w2.frozen? ⟨w.heap.size, 1, none⟩ = false := by simp [World.frozen?, hk2]
    have f2 : w2.frozen? ⟨w.heap.size, 2, none⟩ = false := by simp [World.frozen?, hk2]
    have HK2 := Lib.hid hk2
    clear hk2 hs1 hr1 hr2 hs2
    have HG := Lib.hid hg2
    have HB := Lib.hid hb1
    clear hg2 hb1
    go_wp2_with fail
    refine bodyPost_ret (v := .agg #[.int .i64 0, .int .i64 0, .bool false]) (by simp [results, Try.f15, go_sem, d0, d1, d2]) rfl ⟨rfl, ?_⟩
    have h0 : Below w.heap.size w w2 := below_of_grown' (((Below.refl w.heap.size w).alloc (Nat.le_refl _) _).trans (HB.out.mono (by simp))) HG.out
    exact ((h0.setCell (Nat.le_refl _) _).setCell (Nat.le_refl _) _).setCell (Nat.le_refl _) _
set_option maxHeartbeats 1000000 in
theorem eff_hi (lv : Int) (h : 10 ≤ lv) (w : World) :
    Calls Try.prog 15 #[.int .i64 lv] w fun e w' => e = .returned (.agg #[.int .i64 4096, .int .i64 258, .bool true]) ∧ Below w.heap.size w w' := by
  have f8 : 0 ≤ lv := by omega
  have f9 : 9 < lv := by omega
  go_enter Try.func15, Try.ntmps15
  go_wp2_with (first
    | (refine wpList_build_as rfl 53 #[(1, .tmp 4), (2, .tmp 5), (3, .tmp 6), (4, .tmp 7), (5, .tmp 8), (6, .tmp 9), (7, .tmp 10), (8, .tmp 11), (9, .tmp 12)] rfl [(1, .agg #[.int .i64 4, .int .i64 16, .bool false]), (2, .agg #[.int .i64 8, .int .i64 32, .bool false]), (3, .agg #[.int .i64 16, .int .i64 64, .bool false]), (4, .agg #[.int .i64 16, .int .i64 64, .bool true]), (5, .agg #[.int .i64 32, .int .i64 96, .bool true]), (6, .agg #[.int .i64 64, .int .i64 128, .bool true]), (7, .agg #[.int .i64 128, .int .i64 258, .bool true]), (8, .agg #[.int .i64 512, .int .i64 258, .bool true]), (9, .agg #[.int .i64 4096, .int .i64 258, .bool true])] (by simp only [List.map_toArray, List.map_cons, List.map_nil]; rfl) (arr 30 effF) built53 ?_)
    | (refine wpList_alloc_row rfl 53 30 zerF rfl zero53 ?_; intro w1 hs1 hr1 hb1)
    | (refine wpList_store_arr rfl 53 (.tmp 3) (.tmp 13) rfl _ 30 zerF effF 53 rfl rfl hr1 size53 eff_one ?rest)
    | go_in)
  case rest =>
    intro w2 hs2 hr2 hg2
    have hk2 : w2.heap[w.heap.size]? = some (.cells #[.int .i64 0, .int .i64 0, .bool false] 43 (0, 0)) := (by rw [hg2.block _ (by have := hs1.out; rw [World.size_alloc] at this; omega) (by simp), hb1.block _ (by simp)]; exact (MapKept.heap_alloc w _).1)
    have c0 : w2.cell? ⟨w.heap.size + 1, 27, none⟩ = some (.int .i64 4096) := hr2.cell (by omega)
    have c1 : w2.cell? ⟨w.heap.size + 1, 28, none⟩ = some (.int .i64 258) := hr2.cell (by omega)
    have c2 : w2.cell? ⟨w.heap.size + 1, 29, none⟩ = some (.bool true) := hr2.cell (by omega)
    have d0 : w2.cell? ⟨w.heap.size, 0, none⟩ = some (.int .i64 0) := by simp [World.cell?, hk2]
    have d1 : w2.cell? ⟨w.heap.size, 1, none⟩ = some (.int .i64 0) := by simp [World.cell?, hk2]
    have d2 : w2.cell? ⟨w.heap.size, 2, none⟩ = some (.bool false) := by simp [World.cell?, hk2]
    have f0 : w2.frozen? ⟨w.heap.size, 0, none⟩ = false := by simp [World.frozen?, hk2]
    have f1 : w2.frozen? ⟨w.heap.size, 1, none⟩ = false := by simp [World.frozen?, hk2]
    have f2 : w2.frozen? ⟨w.heap.size, 2, none⟩ = false := by simp [World.frozen?, hk2]
    have HK2 := Lib.hid hk2
    clear hk2 hs1 hr1 hr2 hs2
    have HG := Lib.hid hg2
    have HB := Lib.hid hb1
    clear hg2 hb1
    go_wp2_with fail
    refine bodyPost_ret (v := .agg #[.int .i64 4096, .int .i64 258, .bool true]) (by simp [results, Try.f15, go_sem, d0, d1, d2]) rfl ⟨rfl, ?_⟩
    have h0 : Below w.heap.size w w2 := below_of_grown' (((Below.refl w.heap.size w).alloc (Nat.le_refl _) _).trans (HB.out.mono (by simp))) HG.out
    exact ((h0.setCell (Nat.le_refl _) _).setCell (Nat.le_refl _) _).setCell (Nat.le_refl _) _

theorem efforts_any (lv : Int) (w : World) :
    Calls Try.prog 15 #[.int .i64 lv] w fun e w' => (∃ (c n : Nat) (z : Bool), e = .returned (.agg #[.int .i64 c, .int .i64 n, .bool z]) ∧ c ≤ 4096 ∧ n ≤ 258 ∧ (lv ≤ 0 → c = 0) ∧ (1 ≤ lv → 1 ≤ c)) ∧ Below w.heap.size w w' := by
  by_cases h1 : lv < 0
  · exact (eff_lo lv h1 w).mono fun e w' h => ⟨⟨0, 0, false, h.1, by omega, by omega, by omega, by omega⟩, h.2⟩
  by_cases h2 : 10 ≤ lv
  · exact (eff_hi lv h2 w).mono fun e w' h => ⟨⟨4096, 258, true, h.1, by omega, by omega, by omega, by omega⟩, h.2⟩
  have h3 : lv = ((0 : Nat) : Int) ∨ lv = ((1 : Nat) : Int) ∨ lv = ((2 : Nat) : Int) ∨ lv = ((3 : Nat) : Int) ∨ lv = ((4 : Nat) : Int) ∨ lv = ((5 : Nat) : Int) ∨ lv = ((6 : Nat) : Int) ∨ lv = ((7 : Nat) : Int) ∨ lv = ((8 : Nat) : Int) ∨ lv = ((9 : Nat) : Int) := by omega
  rcases h3 with rfl | rfl | rfl | rfl | rfl | rfl | rfl | rfl | rfl | rfl
  · exact (eff_mid 0 (by omega) 0 0 false (Lib.hid rfl) (Lib.hid rfl) (Lib.hid rfl) w).mono fun e w' h => ⟨⟨0, 0, false, h.1, by omega, by omega, by omega, by omega⟩, h.2⟩
  · exact (eff_mid 1 (by omega) 4 16 false (Lib.hid rfl) (Lib.hid rfl) (Lib.hid rfl) w).mono fun e w' h => ⟨⟨4, 16, false, h.1, by omega, by omega, by omega, by omega⟩, h.2⟩
  · exact (eff_mid 2 (by omega) 8 32 false (Lib.hid rfl) (Lib.hid rfl) (Lib.hid rfl) w).mono fun e w' h => ⟨⟨8, 32, false, h.1, by omega, by omega, by omega, by omega⟩, h.2⟩
  · exact (eff_mid 3 (by omega) 16 64 false (Lib.hid rfl) (Lib.hid rfl) (Lib.hid rfl) w).mono fun e w' h => ⟨⟨16, 64, false, h.1, by omega, by omega, by omega, by omega⟩, h.2⟩
  · exact (eff_mid 4 (by omega) 16 64 true (Lib.hid rfl) (Lib.hid rfl) (Lib.hid rfl) w).mono fun e w' h => ⟨⟨16, 64, true, h.1, by omega, by omega, by omega, by omega⟩, h.2⟩
  · exact (eff_mid 5 (by omega) 32 96 true (Lib.hid rfl) (Lib.hid rfl) (Lib.hid rfl) w).mono fun e w' h => ⟨⟨32, 96, true, h.1, by omega, by omega, by omega, by omega⟩, h.2⟩
  · exact (eff_mid 6 (by omega) 64 128 true (Lib.hid rfl) (Lib.hid rfl) (Lib.hid rfl) w).mono fun e w' h => ⟨⟨64, 128, true, h.1, by omega, by omega, by omega, by omega⟩, h.2⟩
  · exact (eff_mid 7 (by omega) 128 258 true (Lib.hid rfl) (Lib.hid rfl) (Lib.hid rfl) w).mono fun e w' h => ⟨⟨128, 258, true, h.1, by omega, by omega, by omega, by omega⟩, h.2⟩
  · exact (eff_mid 8 (by omega) 512 258 true (Lib.hid rfl) (Lib.hid rfl) (Lib.hid rfl) w).mono fun e w' h => ⟨⟨512, 258, true, h.1, by omega, by omega, by omega, by omega⟩, h.2⟩
  · exact (eff_mid 9 (by omega) 4096 258 true (Lib.hid rfl) (Lib.hid rfl) (Lib.hid rfl) w).mono fun e w' h => ⟨⟨4096, 258, true, h.1, by omega, by omega, by omega, by omega⟩, h.2⟩
end Go.Proofs.Ytegfacepnklbjaa
