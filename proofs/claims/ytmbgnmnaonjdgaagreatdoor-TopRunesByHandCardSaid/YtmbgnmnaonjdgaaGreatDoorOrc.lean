/- PART OF A PROOF over the given program: Orc. See the last text of the claim for the statement. -/
import Derived.Test.YtmbgnmnaonjdgaaGreatDoorRows
import Derived.WalkKit
import Derived.LaidEql
import Derived.Stop.Asserts
import Derived.RowKitTokens
import Derived.Recover
import Derived.Test.YtmbgnmnaonjdgaaGreatDoorEngR
namespace Go.Proofs.YtmbgnmnaonjdgaaGreatDoor
open Go.RowKit Go.Extern.Stop Go.Stop Go.Extern

theorem Tryz.isTypeOf (v : Value) (w : World) : (callFunc 134 #[.iface 53 v]).run Tryz.prog w = .ok (.value (.iface 212 (.agg #[.pointer (some ⟨2, 53, none⟩)]))) w := by kernel_rfl
theorem Tryz.isComparable (w : World) : (callFunc 244 #[.agg #[.pointer (some ⟨2, 53, none⟩)]]).run Tryz.prog w = .ok (.value (.bool true)) w := by kernel_rfl
theorem Tryz.isMethodComparable (n : Nat) (v : Value) (w : World) : (Go.method (n + 1) 212 v "Comparable").run Tryz.prog w = .ok (244, v) w := by kernel_rfl
theorem Tryz.noIsE (v : Value) (xT : TypeId) (w : World) : (Instr.typeAssert (.iface 53 v) xT 321 true).run Tryz.prog w = .ok (.tuple #[.nilIface, .bool false]) w := run_typeAssert_lacksB Tryz.underlying321 (by kernel_rfl) (by kernel_rfl) v xT w
theorem Tryz.noUnwrapE (v : Value) (xT : TypeId) (w : World) : (Instr.typeAssert (.iface 53 v) xT 220 true).run Tryz.prog w = .ok (.tuple #[.nilIface, .bool false]) w := run_typeAssert_lacksB Tryz.underlying220 (by kernel_rfl) (by kernel_rfl) v xT w
theorem Tryz.noUnwrapsE (v : Value) (xT : TypeId) (w : World) : (Instr.typeAssert (.iface 53 v) xT 222 true).run Tryz.prog w = .ok (.tuple #[.nilIface, .bool false]) w := run_typeAssert_lacksB Tryz.underlying222 (by kernel_rfl) (by kernel_rfl) v xT w
theorem Tryz.errnoEq (w : World) : (binOp .eql 72 (.iface 53 (.int .i64 0)) (.iface 53 (.int .i64 3))).run Tryz.prog w = .ok (.bool false) w := by kernel_rfl

set_option maxHeartbeats 1000000 in
theorem errorsIs0 (w : World) : Calls Tryz.prog 240 #[.iface 53 (.int .i64 0), .iface 53 (.int .i64 3)] w fun e w' => e = .returned (.bool false) ∧ w' = w := by
  have tT := Tryz.isTypeOf
  have cT := Tryz.isComparable
  have mR := Tryz.isMethodComparable
  have nE := Tryz.noIsE
  have uE := Tryz.noUnwrapE
  have vE := Tryz.noUnwrapsE
  have heq := Tryz.errnoEq
  go_enter Tryz.func240, Tryz.ntmps240
  go_wp2
  refine wp_loop_rounds 1 ?_
  rw [rounds_succ]
  go_wp2
  go_ret
  exact ⟨rfl, rfl⟩

theorem parseQuiet (args : Array Value) (w : World) : CallsD Tryz.prog 79 args .returning w fun e u w1 => (∃ v, e = .returned v) ∧ u = .returning ∧ Eng.SameW w w1 := by
  refine callsD_of_wpS Tryz.func79 rfl fun c₀ cs hu => ?_
  have hT : 19 ≤ (args ++ Array.replicate (Tryz.f79.ntmps - args.size) undef).size := by rw [Tryz.ntmps79]; simp; omega
  generalize (args ++ Array.replicate (Tryz.f79.ntmps - args.size) undef) = T at hT
  apply wpS_seq
  apply wpS_region
  simp [wpOpsS, go_sem, recoverD, hu, Exit.thenS]
  have e5 : 5 < T.size := by omega
  have e2 : 2 < T.size := by omega
  have e6 : 6 < T.size := by omega
  have e7 : 7 < T.size := by omega
  apply wpS_seq
  apply wpS_seq
  apply wpS_region
  simp [wpOpsS, go_sem, Exit.thenS, e5, e2, e6, e7]
  refine wpS_cond (t := true) (by simp [Act.eval, e5, e2, e6, e7]) ?_
  simp only [if_true]
  refine wpS_of_wp (wp_ret ?_)
  cases c₀
  simp_all [bodyPostS, results, Tryz.results79, Eng.SameW.refl, Exit.thenS]
end Go.Proofs.YtmbgnmnaonjdgaaGreatDoor
