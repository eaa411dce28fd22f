/- PART OF A PROOF over the given program: Awk. See the last text of the claim for the statement. -/
import Derived.Test.YtmbgnmnaonjdgaaGreatDoorOrc
import Derived.Test.YtmbgnmnaonjdgaaGreatDoorEngS
import Derived.KernelRfl
namespace Go.Proofs.YtmbgnmnaonjdgaaGreatDoor
open Go Go.Eng Go.RowKit
def leadsNs : List Int := [0x00, 0x7F, 1, 0, 0, 0xC2, 0xDF, 2, 0x80, 0xBF,
  0xE0, 0xE0, 3, 0xA0, 0xBF, 0xE1, 0xEC, 3, 0x80, 0xBF, 0xED, 0xED, 3, 0x80, 0x9F, 0xEE, 0xEF, 3, 0x80, 0xBF,
  0xF0, 0xF0, 4, 0x90, 0xBF, 0xF1, 0xF3, 4, 0x80, 0xBF, 0xF4, 0xF4, 4, 0x80, 0x8F]
def leadsCells : List Value := leadsNs.map (Value.int .i64)
def awkHeap (e : TypeId) : AH := oneTab (T.full Blk.dead 10) 0 leadsCells e 45 9
def awkOrc : Orc := ⟨fun f args => bif Nat.beq f 240 then (match args with
  | [.iface 53 (.int .i64 (.ofNat 0)), .iface 53 (.int .i64 (.ofNat 3))] => some (.bool false)
  | _ => none) else none, fun f => Nat.beq f 79⟩
def isTrueV : Option (Value × AH) → Bool | some (.bool true, _) => true | _ => false
set_option maxRecDepth 100000 in
theorem awake_ev (e : TypeId) : isTrueV (body Tryz.prog awkOrc (ev Tryz.prog [0] awkOrc 3000) 7 [] (awkHeap e)) = true := by kernel_rfl

theorem awk_set (e : TypeId) : ((T.full Blk.dead 10).set 0 (.cells leadsCells e 45 false)).isSome = true := by kernel_rfl
theorem awk_plain : leadsCells.all (plainN 8) = true := by kernel_rfl
theorem tryz_mixed : Tryz.prog.follows .mixedOrders = true := by kernel_rfl

theorem awkOrc_ok : OrcOK Tryz.prog [0] awkOrc := by
  refine ⟨fun f args v h H K w args' hR hr => ?_, fun g hg args w => ?_⟩
  · simp only [awkOrc] at h
    cases hf : Nat.beq f 240 with
    | false => rw [hf] at h; simp at h
    | true =>
      rw [hf] at h; simp only [cond_true] at h
      have := Nat.eq_of_beq_eq_true hf
      subst this
      split at h
      · simp only [Option.some.injEq] at h; subst h
        have ha : args' = #[.iface 53 (.int .i64 0), .iface 53 (.int .i64 3)] := by
          obtain ⟨l⟩ := args'
          cases hr with
          | cons r1 t => cases t with
            | cons r2 t2 => cases t2 with
              | nil =>
                cases r1 with
                | iface _ r1 => cases r1; cases r2 with
                  | iface _ r2 => cases r2; rfl
        subst ha
        exact (errorsIs0 w).mono fun e w1 ⟨he, hw⟩ => by
          subst he; subst hw
          exact ⟨_, rfl, K, .bool _, hR, Ext.refl _ _ _, fun b hb => .inl hb⟩
      · simp at h
  · have : g = 79 := Nat.eq_of_beq_eq_true hg
    subst this
    exact parseQuiet args w

/-- THE CALL THAT EVERY STATEMENT BEGINS WITH. -/
theorem awake_calls (w : World) {e : TypeId} {fr : Nat × Nat} (hw : w.heap[0]? = some (.cells leadsCells.toArray e fr)) :
    Calls Tryz.prog 7 #[] w fun en w1 => en = .returned (.bool true) ∧ Below w.heap.size w w1 := by
  have hev := awake_ev e
  unfold isTrueV at hev
  split at hev
  · rename_i H' hb
    refine (closed_call awkOrc_ok tryz_mixed hb (K := oneKr 0 leadsCells.length 45) (oneTab_rel (awk_set e) awk_plain hw) ?_ .nil (oneTab_ro (awk_set e))).mono fun en w1 ⟨v', K1, he, hv, _, hB⟩ => ?_
    · intro b hb1 _ hd
      have h1 : b = 0 := hd
      have h2 : 9 ≤ b := hb1
      omega
    · cases hv
      exact ⟨he, hB⟩
  · simp at hev
#print axioms awake_calls
end Go.Proofs.YtmbgnmnaonjdgaaGreatDoor
