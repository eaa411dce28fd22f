/- PART OF A PROOF over the given program: Kp2. See the last text of the claim for the statement. -/
import Derived.Test.YtmbgnmnaonjdgaaGreatDoorKp1
import Derived.Test.YtmbgnmnaonjdgaaGreatDoorRows
import Derived.WalkKit
import Derived.WalkSpells
import Derived.WalkLawsBesides
namespace Go.Proofs.YtmbgnmnaonjdgaaGreatDoor
open Go Go.RowKit Go.Own

theorem ret_bool' {a b : Bool} (h : a = b) : Ending.returned (.bool a) = Ending.returned (.bool b) := by rw [h]

set_option maxHeartbeats 1000000 in
theorem len_set (S : Nat) (a : Option Addr) (n c : Nat) (w : World) (h0 : w.cell? ⟨S, 0, none⟩ = some (.slice a n c)) :
    Calls Tryz.prog 20 #[.pointer (some ⟨S, 0, none⟩)] w fun e w' => e = .returned (.int .i64 n) ∧ w' = w := by
  go_enter Tryz.func20, Tryz.ntmps20
  go_wp2
  go_ret
  exact ⟨rfl, rfl⟩

set_option maxHeartbeats 1000000 in
theorem len_stack (S : Nat) (a : Option Addr) (n c : Nat) (w : World) (h0 : w.cell? ⟨S, 0, none⟩ = some (.slice a n c)) :
    Calls Tryz.prog 23 #[.pointer (some ⟨S, 0, none⟩)] w fun e w' => e = .returned (.int .i64 n) ∧ w' = w := by
  go_enter Tryz.func23, Tryz.ntmps23
  go_wp2
  go_ret
  exact ⟨rfl, rfl⟩

set_option maxHeartbeats 1000000 in
theorem most_stack (S : Nat) (m : Int) (w : World) (h0 : w.cell? ⟨S, 1, none⟩ = some (.int .i64 m)) :
    Calls Tryz.prog 24 #[.pointer (some ⟨S, 0, none⟩)] w fun e w' => e = .returned (.int .i64 m) ∧ w' = w := by
  go_enter Tryz.func24, Tryz.ntmps24
  go_wp2
  go_ret
  exact ⟨rfl, rfl⟩

/-- Has, out of range. -/
theorem has_out (S : Nat) (a : Option Addr) (n c : Nat) (i : Int) (w : World) (hi : i < 0 ∨ (n : Int) ≤ i) (h1 : w.cell? ⟨S, 1, none⟩ = some (.slice a n c)) :
    Calls Tryz.prog 19 #[.pointer (some ⟨S, 0, none⟩), .int .i64 i] w fun e w' => e = .returned (.bool false) ∧ w' = w := by
  by_cases h : i < 0
  · go_enter Tryz.func19, Tryz.ntmps19
    go_wp2
    go_ret
    exact ⟨rfl, rfl⟩
  · have h2 : (n : Int) ≤ i := by omega
    clear hi
    go_enter Tryz.func19, Tryz.ntmps19
    go_wp2
    go_ret
    exact ⟨rfl, rfl⟩

set_option maxHeartbeats 1000000 in
theorem has_in (S ba bl n ca m cl i k : Nat) (x : Int) (al : Option Addr) (w : World) (hi : i < n) (h1 : w.cell? ⟨S, 1, none⟩ = some (.slice (some ⟨ba, 0, none⟩) n ca)) (hk : w.cell? ⟨ba, i, none⟩ = some (.int .i64 k))
    (h0 : w.cell? ⟨S, 0, none⟩ = some (.slice al m cl)) (hx : k < m → al = some ⟨bl, 0, none⟩ ∧ w.cell? ⟨bl, k, none⟩ = some (.int .i64 x)) :
    Calls Tryz.prog 19 #[.pointer (some ⟨S, 0, none⟩), .int .i64 i] w fun e w' => e = .returned (.bool (decide (k < m) && x == i)) ∧ w' = w := by
  have hi0 : ¬ ((i : Int) < 0) := by omega
  have hi1 : ¬ ((n : Int) ≤ (i : Int)) := by omega
  by_cases hkm : k < m
  · obtain ⟨rfl, hx⟩ := hx hkm
    have hk2 : (k : Int) < (m : Int) := by omega
    go_enter Tryz.func19, Tryz.ntmps19
    go_wp2
    go_ret
    exact ⟨ret_bool' (by simp), rfl⟩
  · have hk2 : ¬ ((k : Int) < (m : Int)) := by omega
    clear hx
    go_enter Tryz.func19, Tryz.ntmps19
    go_wp2
    go_ret
    exact ⟨ret_bool' (by simp), rfl⟩
end Go.Proofs.YtmbgnmnaonjdgaaGreatDoor
