/- PART OF A PROOF over the given program: Lk2. See the last text of the claim for the statement. -/
import Derived.Test.YtmbgnmnaonjdgaaGreatDoorLk1
namespace Go.Proofs.YtmbgnmnaonjdgaaGreatDoor
open Go Go.RowKit

abbrev rowsO : Obj := .cells #[.int .i64 1, .int .i64 2, .func (.func 68) #[] #[], .int .i64 2, .int .i64 1, .func (.func 69) #[] #[], .int .i64 4, .int .i64 8, .func (.func 70) #[] #[],
  .int .i64 8, .int .i64 4, .func (.func 71) #[] #[], .int .i64 16, .int .i64 16, .func (.func 72) #[] #[], .int .i64 32, .int .i64 32, .func (.func 73) #[] #[]] 81

set_option maxHeartbeats 1000000 in
theorem rows_any (w : World) : Calls Tryz.prog 51 #[] w fun e w' => e = .returned (.slice (some ⟨w.heap.size, 0, none⟩) 6 6) ∧ w' = w.alloc rowsO := by
  go_enter Tryz.func51, Tryz.ntmps51
  go_wp2
  go_ret
  exact ⟨rfl, rfl⟩

def atAcc (zs : List Int) (p : Nat) : Nat → Int
  | 0 => 0
  | k + 1 => if spotB zs p k then bits .or .i64 (atAcc zs p k) (2 ^ k) else atAcc zs p k

theorem rows_cell {w wr : World} (hB : Below (w.heap.size + 1) (w.alloc rowsO) wr) (j : Nat) {v : Value} (h : (#[.int .i64 1, .int .i64 2, .func (.func 68) #[] #[], .int .i64 2, .int .i64 1, .func (.func 69) #[] #[], .int .i64 4, .int .i64 8, .func (.func 70) #[] #[],
  .int .i64 8, .int .i64 4, .func (.func 71) #[] #[], .int .i64 16, .int .i64 16, .func (.func 72) #[] #[], .int .i64 32, .int .i64 32, .func (.func 73) #[] #[]] : Array Value)[j]? = some v) : wr.cell? ⟨w.heap.size, j, none⟩ = some v := by
  rw [hB.cell (p := ⟨w.heap.size, j, none⟩) (Nat.lt_succ_self _), World.cell?_alloc_at _ _ _ _ rfl]
  exact h

theorem new_cell {w w2 : World} {cs : Array Value} {t : TypeId} (hB : Below (w.alloc (.cells cs t)).heap.size (w.alloc (.cells cs t)) w2) (j : Nat) {v : Value} (h : cs[j]? = some v) : w2.cell? ⟨w.heap.size, j, none⟩ = some v := by
  rw [hB.cell (p := ⟨w.heap.size, j, none⟩) (by simp), World.cell?_alloc_at _ _ _ _ rfl]
  exact h

theorem rows_next {w wr w2 : World} {o : Obj} (hB : Below (w.heap.size + 1) (w.alloc rowsO) wr) (hB2 : Below (wr.alloc o).heap.size (wr.alloc o) w2) : Below (w.heap.size + 1) (w.alloc rowsO) w2 := by
  have h1 : w.heap.size + 1 ≤ wr.heap.size := by simpa using hB.size
  exact (hB.trans ((below1 wr o).mono h1)).trans (hB2.mono (by simp; omega))

set_option maxHeartbeats 8000000 in
theorem at_in (zs : List Int) (a : Option Addr) (c p : Nat) (w : World) (h : TextAt w (.slice a zs.length c) zs) (hp : p ≤ zs.length) (hm : zs.length ≤ 30) :
    Calls Tryz.prog 8 #[.slice a zs.length c, .int .i64 p] w fun e w' => e = .returned (.int .i64 (atAcc zs p 6)) ∧ Below w.heap.size w w' := by
  have hp0 : ¬ ((p : Int) < 0) := by omega
  have hp1 : ¬ ((zs.length : Int) < (p : Int)) := by omega
  have hsf := fun (k : Nat) (ad : Addr) (w : World) => run_store Tryz.prog w ad (.func (.func k) #[] #[]) .plain rfl
  go_enter Tryz.func8, Tryz.ntmps8
  go_wp2_with (first | (go_at_call 51; refine (rows_any _).mono ?_; rintro e w' ⟨rfl, rfl⟩))
  go_loopw [5, 18] (fun t i wr => ∃ k : Nat, k ≤ 6 ∧ i = .int .i64 k ∧ t = .int .i64 (atAcc zs p k) ∧ Below (w.heap.size + 1) (w.alloc rowsO) wr) (fun _ i _ => 6 - (intOf i).toNat)
  case atStart => exact ⟨0, by omega, rfl, rfl, Below.refl _ _⟩
  case round =>
    obtain ⟨k, hk, rfl, rfl, hB⟩ := hrel
    have hT : ∀ o, TextAt (wr.alloc o) (.slice a zs.length c) zs := fun o => ((h.below (below1 w rowsO)).below (hB.mono (by simp))).below (below1 wr o)
    have hk7 : k = 0 ∨ k = 1 ∨ k = 2 ∨ k = 3 ∨ k = 4 ∨ k = 5 ∨ k = 6 := by omega
    rcases hk7 with rfl | rfl | rfl | rfl | rfl | rfl | rfl
    · have c0 := rows_cell hB 0 rfl
      have c1 := rows_cell hB 1 rfl
      have c2 := rows_cell hB 2 rfl
      have hS := fun w1 ht => spot_any 0 (by decide) zs (.slice a zs.length c) p w1 ht hp
      go_wp2_with (first | (go_at_call 68; refine (hS _ (hT _) hm).mono ?_; rintro e w2 ⟨rfl, hB2⟩; have hn := new_cell hB2 0 rfl))
      · have hs : spotB zs p 0 = true := by assumption
        exact ⟨⟨1, by omega, rfl, by simp [atAcc, hs], rows_next hB hB2⟩, by simp [intOf]⟩
      · have hs : spotB zs p 0 = false := by assumption
        exact ⟨⟨1, by omega, rfl, by simp [atAcc, hs], rows_next hB hB2⟩, by simp [intOf]⟩
    · have c0 := rows_cell hB 3 rfl
      have c1 := rows_cell hB 4 rfl
      have c2 := rows_cell hB 5 rfl
      have hS := fun w1 ht => spot_any 1 (by decide) zs (.slice a zs.length c) p w1 ht hp
      go_wp2_with (first | (go_at_call 69; refine (hS _ (hT _) hm).mono ?_; rintro e w2 ⟨rfl, hB2⟩; have hn := new_cell hB2 0 rfl))
      · have hs : spotB zs p 1 = true := by assumption
        exact ⟨⟨2, by omega, rfl, by simp [atAcc, hs], rows_next hB hB2⟩, by simp [intOf]⟩
      · have hs : spotB zs p 1 = false := by assumption
        exact ⟨⟨2, by omega, rfl, by simp [atAcc, hs], rows_next hB hB2⟩, by simp [intOf]⟩
    · have c0 := rows_cell hB 6 rfl
      have c1 := rows_cell hB 7 rfl
      have c2 := rows_cell hB 8 rfl
      have hS := fun w1 ht => spot_any 2 (by decide) zs (.slice a zs.length c) p w1 ht hp
      go_wp2_with (first | (go_at_call 70; refine (hS _ (hT _) hm).mono ?_; rintro e w2 ⟨rfl, hB2⟩; have hn := new_cell hB2 0 rfl))
      · have hs : spotB zs p 2 = true := by assumption
        exact ⟨⟨3, by omega, rfl, by simp [atAcc, hs], rows_next hB hB2⟩, by simp [intOf]⟩
      · have hs : spotB zs p 2 = false := by assumption
        exact ⟨⟨3, by omega, rfl, by simp [atAcc, hs], rows_next hB hB2⟩, by simp [intOf]⟩
    · have c0 := rows_cell hB 9 rfl
      have c1 := rows_cell hB 10 rfl
      have c2 := rows_cell hB 11 rfl
      have hS := fun w1 ht => spot_any 3 (by decide) zs (.slice a zs.length c) p w1 ht hp
      go_wp2_with (first | (go_at_call 71; refine (hS _ (hT _) hm).mono ?_; rintro e w2 ⟨rfl, hB2⟩; have hn := new_cell hB2 0 rfl))
      · have hs : spotB zs p 3 = true := by assumption
        exact ⟨⟨4, by omega, rfl, by simp [atAcc, hs], rows_next hB hB2⟩, by simp [intOf]⟩
      · have hs : spotB zs p 3 = false := by assumption
        exact ⟨⟨4, by omega, rfl, by simp [atAcc, hs], rows_next hB hB2⟩, by simp [intOf]⟩
    · have c0 := rows_cell hB 12 rfl
      have c1 := rows_cell hB 13 rfl
      have c2 := rows_cell hB 14 rfl
      have hS := fun w1 ht => spot_any 4 (by decide) zs (.slice a zs.length c) p w1 ht hp
      go_wp2_with (first | (go_at_call 72; refine (hS _ (hT _) hm).mono ?_; rintro e w2 ⟨rfl, hB2⟩; have hn := new_cell hB2 0 rfl))
      · have hs : spotB zs p 4 = true := by assumption
        exact ⟨⟨5, by omega, rfl, by simp [atAcc, hs], rows_next hB hB2⟩, by simp [intOf]⟩
      · have hs : spotB zs p 4 = false := by assumption
        exact ⟨⟨5, by omega, rfl, by simp [atAcc, hs], rows_next hB hB2⟩, by simp [intOf]⟩
    · have c0 := rows_cell hB 15 rfl
      have c1 := rows_cell hB 16 rfl
      have c2 := rows_cell hB 17 rfl
      have hS := fun w1 ht => spot_any 5 (by decide) zs (.slice a zs.length c) p w1 ht hp
      go_wp2_with (first | (go_at_call 73; refine (hS _ (hT _) hm).mono ?_; rintro e w2 ⟨rfl, hB2⟩; have hn := new_cell hB2 0 rfl))
      · have hs : spotB zs p 5 = true := by assumption
        exact ⟨⟨6, by omega, rfl, by simp [atAcc, hs], rows_next hB hB2⟩, by simp [intOf]⟩
      · have hs : spotB zs p 5 = false := by assumption
        exact ⟨⟨6, by omega, rfl, by simp [atAcc, hs], rows_next hB hB2⟩, by simp [intOf]⟩
    · go_wp2
      go_ret
      exact ⟨rfl, (below1 w rowsO).trans (hB.mono (by simp))⟩

set_option maxHeartbeats 1000000 in
theorem at_neg (a : Option Addr) (n c : Nat) (w : World) : Calls Tryz.prog 8 #[.slice a n c, .int .i64 (-1)] w fun e w' => e = .returned (.int .i64 0) ∧ w' = w := by
  go_enter Tryz.func8, Tryz.ntmps8
  go_wp2
  go_ret
  exact ⟨rfl, rfl⟩

set_option maxHeartbeats 1000000 in
theorem at_past (a : Option Addr) (n c : Nat) (w : World) : Calls Tryz.prog 8 #[.slice a n c, .int .i64 ((n : Int) + 1)] w fun e w' => e = .returned (.int .i64 0) ∧ w' = w := by
  have h0 : ¬ ((n : Int) + 1 < 0) := by omega
  have h1 : (n : Int) < (n : Int) + 1 := by omega
  go_enter Tryz.func8, Tryz.ntmps8
  go_wp2
  go_ret
  exact ⟨rfl, rfl⟩
end Go.Proofs.YtmbgnmnaonjdgaaGreatDoor
