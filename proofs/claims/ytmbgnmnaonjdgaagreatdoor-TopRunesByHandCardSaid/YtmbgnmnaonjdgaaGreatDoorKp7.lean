/- PART OF A PROOF over the given program: Kp7. See the last text of the claim for the statement. -/
import Derived.Test.YtmbgnmnaonjdgaaGreatDoorKp6
import Derived.Lib.SliceRun
namespace Go.Proofs.YtmbgnmnaonjdgaaGreatDoor
open Go Go.RowKit Go.Own

theorem Tryz.zero3 (w : World) : (zeroValue 3).run Tryz.prog w = .ok (.int .i64 0) w := by kernel_rfl

set_option maxHeartbeats 1000000 in
theorem clear_stack_none (S c : Nat) (a : Option Addr) (m : Int) (w : World) (h0 : w.cell? ⟨S, 0, none⟩ = some (.slice a 0 c)) (h1 : w.cell? ⟨S, 1, none⟩ = some (.int .i64 m)) (f0 : w.frozen? ⟨S, 0, none⟩ = false) (f1 : w.frozen? ⟨S, 1, none⟩ = false) :
    Calls Tryz.prog 18 #[.pointer (some ⟨S, 0, none⟩)] w fun e w' => e = .returned (.tuple #[]) ∧ w' = (w.setCell ⟨S, 0, none⟩ (.slice a 0 c)).setCell ⟨S, 1, none⟩ (.int .i64 0) := by
  have hcl : ∀ ty, (Builtin.clear_ #[22] ty #[.slice a 0 c]).run Tryz.prog w = .ok (.tuple #[]) w := fun ty => by
    cases a <;> simp [Builtin.clear_, run_underlying Tryz.underlying22]
  go_enter Tryz.func18, Tryz.ntmps18
  go_wp2
  go_end0
  exact ⟨rfl, rfl⟩

theorem clear_run (w : World) (b n c : Nat) (hn : 0 < n) (hc : ∀ j, j < n → (w.cell? ⟨b, j, none⟩).isSome = true) (hf : ∀ j, j < n → w.frozen? ⟨b, j, none⟩ = false) (ty : TypeId) :
    (Builtin.clear_ #[22] ty #[.slice (some ⟨b, 0, none⟩) n c]).run Tryz.prog w = .ok (.tuple #[]) (w.setCells b 0 (List.replicate n (.int .i64 0))) :=
  Lib.run_clear_slice w 22 3 ty (.int .i64 0) Tryz.underlying22 Tryz.zero3 rfl rfl b 0 n c hn (fun j hj => by rw [Nat.zero_add]; exact hc j hj) (fun j hj => by rw [Nat.zero_add]; exact hf j hj)

set_option maxHeartbeats 1000000 in
theorem clear_stack_some (S b n c : Nat) (m : Int) (w w1 : World) (hcl : ∀ ty, (Builtin.clear_ #[22] ty #[.slice (some ⟨b, 0, none⟩) n c]).run Tryz.prog w = .ok (.tuple #[]) w1)
    (h0 : w.cell? ⟨S, 0, none⟩ = some (.slice (some ⟨b, 0, none⟩) n c)) (k0 : w1.cell? ⟨S, 0, none⟩ = some (.slice (some ⟨b, 0, none⟩) n c)) (k1 : w1.cell? ⟨S, 1, none⟩ = some (.int .i64 m)) (f0 : w1.frozen? ⟨S, 0, none⟩ = false) (f1 : w1.frozen? ⟨S, 1, none⟩ = false) :
    Calls Tryz.prog 18 #[.pointer (some ⟨S, 0, none⟩)] w fun e w' => e = .returned (.tuple #[]) ∧ w' = (w1.setCell ⟨S, 0, none⟩ (.slice (some ⟨b, 0, none⟩) 0 c)).setCell ⟨S, 1, none⟩ (.int .i64 0) := by
  go_enter Tryz.func18, Tryz.ntmps18
  go_wp2
  go_end0
  exact ⟨rfl, rfl⟩

set_option maxHeartbeats 1000000 in
theorem clear_set_none (S c : Nat) (a : Option Addr) (w : World) (h0 : w.cell? ⟨S, 0, none⟩ = some (.slice a 0 c)) (f0 : w.frozen? ⟨S, 0, none⟩ = false) :
    Calls Tryz.prog 15 #[.pointer (some ⟨S, 0, none⟩)] w fun e w' => e = .returned (.tuple #[]) ∧ w' = w.setCell ⟨S, 0, none⟩ (.slice a 0 c) := by
  have hcl : ∀ ty, (Builtin.clear_ #[22] ty #[.slice a 0 c]).run Tryz.prog w = .ok (.tuple #[]) w := fun ty => by
    cases a <;> simp [Builtin.clear_, run_underlying Tryz.underlying22]
  go_enter Tryz.func15, Tryz.ntmps15
  go_wp2
  go_end0
  exact ⟨rfl, rfl⟩

set_option maxHeartbeats 1000000 in
theorem clear_set_some (S b n c : Nat) (w w1 : World) (hcl : ∀ ty, (Builtin.clear_ #[22] ty #[.slice (some ⟨b, 0, none⟩) n c]).run Tryz.prog w = .ok (.tuple #[]) w1)
    (h0 : w.cell? ⟨S, 0, none⟩ = some (.slice (some ⟨b, 0, none⟩) n c)) (k0 : w1.cell? ⟨S, 0, none⟩ = some (.slice (some ⟨b, 0, none⟩) n c)) (f0 : w1.frozen? ⟨S, 0, none⟩ = false) :
    Calls Tryz.prog 15 #[.pointer (some ⟨S, 0, none⟩)] w fun e w' => e = .returned (.tuple #[]) ∧ w' = w1.setCell ⟨S, 0, none⟩ (.slice (some ⟨b, 0, none⟩) 0 c) := by
  go_enter Tryz.func15, Tryz.ntmps15
  go_wp2
  go_end0
  exact ⟨rfl, rfl⟩
end Go.Proofs.YtmbgnmnaonjdgaaGreatDoor
