/- PART OF A PROOF over the given program: Kp6. See the last text of the claim for the statement. -/
import Derived.Test.YtmbgnmnaonjdgaaGreatDoorKp5
namespace Go.Proofs.YtmbgnmnaonjdgaaGreatDoor
open Go Go.RowKit Go.Own

set_option maxHeartbeats 1000000 in
theorem pop_none (S c : Nat) (a : Option Addr) (w : World) (h0 : w.cell? ⟨S, 0, none⟩ = some (.slice a 0 c)) :
    Calls Tryz.prog 17 #[.pointer (some ⟨S, 0, none⟩)] w fun e w' => e = .returned (.tuple #[.int .i64 0, .bool false]) ∧ w' = w := by
  go_enter Tryz.func17, Tryz.ntmps17
  go_wp2
  go_ret2
  exact ⟨rfl, rfl⟩

set_option maxHeartbeats 1000000 in
theorem pop_some (S b k c : Nat) (x : Int) (w : World) (hbS : b ≠ S) (hk : k + 1 ≤ c) (hk2 : k ≤ 1000) (h0 : w.cell? ⟨S, 0, none⟩ = some (.slice (some ⟨b, 0, none⟩) (k + 1) c)) (f0 : w.frozen? ⟨S, 0, none⟩ = false)
    (hx : w.cell? ⟨b, k, none⟩ = some (.int .i64 x)) (fb : w.frozen? ⟨b, k, none⟩ = false) :
    Calls Tryz.prog 17 #[.pointer (some ⟨S, 0, none⟩)] w fun e w' => e = .returned (.tuple #[.int .i64 x, .bool true]) ∧ w' = (w.setCell ⟨b, k, none⟩ (.int .i64 0)).setCell ⟨S, 0, none⟩ (.slice (some ⟨b, 0, none⟩) k c) := by
  have hSb : S ≠ b := fun e => hbS e.symm
  have h2 : (w.setCell ⟨b, k, none⟩ (.int .i64 0)).cell? ⟨S, 0, none⟩ = some (.slice (some ⟨b, 0, none⟩) (k + 1) c) := by
    rw [World.cell?_setCell_other _ _ _ _ (by simp)]; exact h0
  go_enter Tryz.func17, Tryz.ntmps17
  go_wp2
  go_ret2
  exact ⟨rfl, rfl⟩
end Go.Proofs.YtmbgnmnaonjdgaaGreatDoor
