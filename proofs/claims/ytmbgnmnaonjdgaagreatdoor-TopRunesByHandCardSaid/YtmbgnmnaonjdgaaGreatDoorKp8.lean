/- PART OF A PROOF over the given program: Kp8. See the last text of the claim for the statement. -/
import Derived.Test.YtmbgnmnaonjdgaaGreatDoorKp7
namespace Go.Proofs.YtmbgnmnaonjdgaaGreatDoor
open Go Go.RowKit Go.Own

set_option maxHeartbeats 1000000 in
theorem add_out (S : Nat) (a : Option Addr) (n c : Nat) (i : Int) (w : World) (hi : i < 0 ∨ (n : Int) ≤ i) (h1 : w.cell? ⟨S, 1, none⟩ = some (.slice a n c)) :
    Calls Tryz.prog 14 #[.pointer (some ⟨S, 0, none⟩), .int .i64 i] w fun e w' => e = .returned (.bool false) ∧ w' = w := by
  by_cases h : i < 0
  · go_enter Tryz.func14, Tryz.ntmps14
    go_wp2
    go_ret
    exact ⟨rfl, rfl⟩
  · have h2 : (n : Int) ≤ i := by omega
    clear hi
    go_enter Tryz.func14, Tryz.ntmps14
    go_wp2
    go_ret
    exact ⟨rfl, rfl⟩

set_option maxHeartbeats 1000000 in
theorem add_there (S : Nat) (a : Option Addr) (n c i : Nat) (w : World) (hi : i < n) (h1 : w.cell? ⟨S, 1, none⟩ = some (.slice a n c))
    (hh : Calls Tryz.prog 19 #[.pointer (some ⟨S, 0, none⟩), .int .i64 i] w fun e w' => e = .returned (.bool true) ∧ w' = w) :
    Calls Tryz.prog 14 #[.pointer (some ⟨S, 0, none⟩), .int .i64 i] w fun e w' => e = .returned (.bool false) ∧ w' = w := by
  have hi0 : ¬ ((i : Int) < 0) := by omega
  have hi1 : ¬ ((n : Int) ≤ (i : Int)) := by omega
  go_enter Tryz.func14, Tryz.ntmps14
  go_wp2_with fail
  refine hh.mono ?_
  rintro e w' ⟨rfl, rfl⟩
  clear hh
  go_wp2
  go_ret
  exact ⟨rfl, rfl⟩
end Go.Proofs.YtmbgnmnaonjdgaaGreatDoor
