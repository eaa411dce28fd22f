/- PART OF A PROOF over the given program: Lk3. See the last text of the claim for the statement. -/
import Derived.Test.YtmbgnmnaonjdgaaGreatDoorLk2
namespace Go.Proofs.YtmbgnmnaonjdgaaGreatDoor
open Go Go.RowKit

def flipBit : Nat → Int × Int
  | 0 => (1, 2) | 1 => (2, 1) | 2 => (4, 8) | 3 => (8, 4) | 4 => (16, 16) | _ => (32, 32)

def flipAcc (x : Int) : Nat → Int
  | 0 => x
  | k + 1 => if (bits .and .i64 x (flipBit k).1 != 0) = true then bits .or .i64 (flipAcc x k) (flipBit k).2 else bits .andNot .i64 (flipAcc x k) (flipBit k).2

set_option maxHeartbeats 8000000 in
theorem flip_any (x : Int) (w : World) :
    Calls Tryz.prog 11 #[.int .i64 x] w fun e w' => e = .returned (.int .i64 (flipAcc x 6)) ∧ Below w.heap.size w w' := by
  have hsf := fun (k : Nat) (ad : Addr) (w : World) => run_store Tryz.prog w ad (.func (.func k) #[] #[]) .plain rfl
  go_enter Tryz.func11, Tryz.ntmps11
  go_wp2_with (first | (go_at_call 51; refine (rows_any _).mono ?_; rintro e w' ⟨rfl, rfl⟩))
  go_loopw [3, 9] (fun t i wr => ∃ k : Nat, k ≤ 6 ∧ i = .int .i64 k ∧ t = .int .i64 (flipAcc x k) ∧ Below (w.heap.size + 1) (w.alloc rowsO) wr) (fun _ i _ => 6 - (intOf i).toNat)
  case atStart => exact ⟨0, by omega, rfl, rfl, Below.refl _ _⟩
  case round =>
    obtain ⟨k, hk, rfl, rfl, hB⟩ := hrel
    have hnext : ∀ o, Below (w.heap.size + 1) (w.alloc rowsO) (wr.alloc o) := fun o => hB.alloc (by simpa using hB.size) o
    have hk7 : k = 0 ∨ k = 1 ∨ k = 2 ∨ k = 3 ∨ k = 4 ∨ k = 5 ∨ k = 6 := by omega
    rcases hk7 with rfl | rfl | rfl | rfl | rfl | rfl | rfl
    · have c0 := rows_cell hB 0 rfl
      have c1 := rows_cell hB 1 rfl
      have c2 := rows_cell hB 2 rfl
      go_wp2
      · have hs : (bits BinOp.and IntKind.i64 x 1 != 0) = true := by assumption
        exact ⟨⟨1, by omega, rfl, by simp only [flipAcc, flipBit, hs, if_true], hnext _⟩, by simp [intOf]⟩
      · have hs : (bits BinOp.and IntKind.i64 x 1 != 0) = false := by assumption
        exact ⟨⟨1, by omega, rfl, by simp only [flipAcc, flipBit, hs, Bool.false_eq_true, if_false], hnext _⟩, by simp [intOf]⟩
    · have c0 := rows_cell hB 3 rfl
      have c1 := rows_cell hB 4 rfl
      have c2 := rows_cell hB 5 rfl
      go_wp2
      · have hs : (bits BinOp.and IntKind.i64 x 2 != 0) = true := by assumption
        exact ⟨⟨2, by omega, rfl, by simp only [flipAcc, flipBit, hs, if_true], hnext _⟩, by simp [intOf]⟩
      · have hs : (bits BinOp.and IntKind.i64 x 2 != 0) = false := by assumption
        exact ⟨⟨2, by omega, rfl, by simp only [flipAcc, flipBit, hs, Bool.false_eq_true, if_false], hnext _⟩, by simp [intOf]⟩
    · have c0 := rows_cell hB 6 rfl
      have c1 := rows_cell hB 7 rfl
      have c2 := rows_cell hB 8 rfl
      go_wp2
      · have hs : (bits BinOp.and IntKind.i64 x 4 != 0) = true := by assumption
        exact ⟨⟨3, by omega, rfl, by simp only [flipAcc, flipBit, hs, if_true], hnext _⟩, by simp [intOf]⟩
      · have hs : (bits BinOp.and IntKind.i64 x 4 != 0) = false := by assumption
        exact ⟨⟨3, by omega, rfl, by simp only [flipAcc, flipBit, hs, Bool.false_eq_true, if_false], hnext _⟩, by simp [intOf]⟩
    · have c0 := rows_cell hB 9 rfl
      have c1 := rows_cell hB 10 rfl
      have c2 := rows_cell hB 11 rfl
      go_wp2
      · have hs : (bits BinOp.and IntKind.i64 x 8 != 0) = true := by assumption
        exact ⟨⟨4, by omega, rfl, by simp only [flipAcc, flipBit, hs, if_true], hnext _⟩, by simp [intOf]⟩
      · have hs : (bits BinOp.and IntKind.i64 x 8 != 0) = false := by assumption
        exact ⟨⟨4, by omega, rfl, by simp only [flipAcc, flipBit, hs, Bool.false_eq_true, if_false], hnext _⟩, by simp [intOf]⟩
    · have c0 := rows_cell hB 12 rfl
      have c1 := rows_cell hB 13 rfl
      have c2 := rows_cell hB 14 rfl
      go_wp2
      · have hs : (bits BinOp.and IntKind.i64 x 16 != 0) = true := by assumption
        exact ⟨⟨5, by omega, rfl, by simp only [flipAcc, flipBit, hs, if_true], hnext _⟩, by simp [intOf]⟩
      · have hs : (bits BinOp.and IntKind.i64 x 16 != 0) = false := by assumption
        exact ⟨⟨5, by omega, rfl, by simp only [flipAcc, flipBit, hs, Bool.false_eq_true, if_false], hnext _⟩, by simp [intOf]⟩
    · have c0 := rows_cell hB 15 rfl
      have c1 := rows_cell hB 16 rfl
      have c2 := rows_cell hB 17 rfl
      go_wp2
      · have hs : (bits BinOp.and IntKind.i64 x 32 != 0) = true := by assumption
        exact ⟨⟨6, by omega, rfl, by simp only [flipAcc, flipBit, hs, if_true], hnext _⟩, by simp [intOf]⟩
      · have hs : (bits BinOp.and IntKind.i64 x 32 != 0) = false := by assumption
        exact ⟨⟨6, by omega, rfl, by simp only [flipAcc, flipBit, hs, Bool.false_eq_true, if_false], hnext _⟩, by simp [intOf]⟩
    · go_wp2
      go_ret
      exact ⟨rfl, (below1 w rowsO).trans (hB.mono (by simp))⟩

theorem cl_true (B : Nat) (x n : Int) (w : World) (hx : 0 ≤ x ∧ x ≤ 100) (hn : 0 ≤ n ∧ n ≤ 100) (hc : w.cell? ⟨B, 0, none⟩ = some (.int .i64 x)) (hf : w.frozen? ⟨B, 0, none⟩ = false) :
    Calls Tryz.prog 52 #[.bool true, .int .i64 n, .pointer (some ⟨B, 0, none⟩)] w fun e w' => e = .returned (.tuple #[]) ∧ w' = w.setCell ⟨B, 0, none⟩ (.int .i64 (x + n)) := by
  go_enter Tryz.func52, Tryz.ntmps52
  go_wp2
  go_end0
  exact ⟨rfl, rfl⟩

theorem cl_false (B : Nat) (n : Int) (w : World) :
    Calls Tryz.prog 52 #[.bool false, .int .i64 n, .pointer (some ⟨B, 0, none⟩)] w fun e w' => e = .returned (.tuple #[]) ∧ w' = w := by
  go_enter Tryz.func52, Tryz.ntmps52
  go_wp2
  go_end0
  exact ⟨rfl, rfl⟩

theorem cl_any (B B0 : Nat) (b : Bool) (x n : Int) (w : World) (hB : B0 ≤ B) (hx : 0 ≤ x ∧ x ≤ 63) (hn : 0 ≤ n ∧ n ≤ 100) (hc : w.cell? ⟨B, 0, none⟩ = some (.int .i64 x)) (hf : w.frozen? ⟨B, 0, none⟩ = false) :
    Calls Tryz.prog 52 #[.bool b, .int .i64 n, .pointer (some ⟨B, 0, none⟩)] w fun e w' => e = .returned (.tuple #[]) ∧ w'.cell? ⟨B, 0, none⟩ = some (.int .i64 (x + if b = true then n else 0)) ∧ w'.frozen? ⟨B, 0, none⟩ = false ∧ Below B0 w w' := by
  cases b
  · refine (cl_false B n w).mono fun e w' ⟨h1, h2⟩ => ?_
    subst h2
    exact ⟨h1, by rw [hc]; simp, hf, Below.refl _ _⟩
  · refine (cl_true B x n w ⟨hx.1, by omega⟩ hn hc hf).mono fun e w' ⟨h1, h2⟩ => ?_
    subst h2
    refine ⟨h1, ?_, ?_, (Below.refl _ _).setCell hB _⟩
    · rw [World.cell?_setCell_same' w _ _ (by rw [hc]; rfl)]; simp
    · simp [hf]

set_option maxHeartbeats 1000000 in
theorem reedWord_any (x : Int) (w : World) : Calls Tryz.prog 31 #[.int .i64 x] w fun e w' => e = .returned (.bool (wordB x)) ∧ w' = w := by
  go_enter Tryz.func31, Tryz.ntmps31
  go_wp2
  all_goals go_ret
  all_goals refine ⟨ret_bool ?_, rfl⟩
  all_goals (rw [Bool.eq_iff_iff]; simp only [wordB, Bool.or_eq_true, Bool.and_eq_true, decide_eq_true_eq, beq_iff_eq, true_iff] <;> omega)
end Go.Proofs.YtmbgnmnaonjdgaaGreatDoor
