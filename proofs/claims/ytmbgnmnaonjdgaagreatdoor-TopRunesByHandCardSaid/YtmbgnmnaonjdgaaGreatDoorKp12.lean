/- PART OF A PROOF over the given program: Kp12. See the last text of the claim for the statement. -/
import Derived.Test.YtmbgnmnaonjdgaaGreatDoorKp11
namespace Go.Proofs.YtmbgnmnaonjdgaaGreatDoor
open Go Go.RowKit Go.Own

theorem only_drewN (w : World) (m : Nat) : Only [] w (w.drewN m) := ⟨rfl, rfl, rfl, Nat.le_refl _, fun _ _ _ => rfl⟩
theorem only_below {w w' : World} (h : Below w.heap.size w w') : Only [] w w' := ⟨h.os, h.tape, h.output, h.size, fun k hk _ => h.block k hk⟩

/-- the raw bytes, where they lie. -/
def Bytes (W : World) (a : Option Addr) (n : Nat) : Prop := ∀ j, j < n → ∃ b off x, a = some ⟨b, off, none⟩ ∧ b < W.heap.size ∧ W.cell? ⟨b, off + j, none⟩ = some (.int .u8 x) ∧ 0 ≤ x ∧ x ≤ 255

section
variable {W : World} {R S T A room : Nat} {w : World} {K : Nat} {v u p q : Value} {l ats k l2 k2 : List Int} {m : Int}

theorem kept_next {a : Option Addr} {rn rc : Nat} (h : Kept W R S T A room (.slice a rn rc) w K v u p q l ats k l2 k2 m) (hb : Bytes W a rn) (n : Int) (hn : 0 < n) (hK : K ≤ 1000) :
    Calls Tryz.prog 13 #[.pointer (some ⟨R, 0, none⟩), .int .i64 n] w fun e w' => ∃ x, e = .returned (.int .i64 x) ∧ 0 ≤ x ∧ x < n ∧ Kept W R S T A room (.slice a rn rc) w' (K + 1) v u p q l ats k l2 k2 m := by
  obtain ⟨at', hat, h1⟩ := h.raw.r1
  have hr0 := h.raw.r0
  have hf1 := h.raw.f1
  by_cases hle : rn ≤ at'
  · refine (next_out R rn rc at' a n w hle hr0 h1).mono ?_
    rintro e w' ⟨rfl, i, rfl⟩
    have h' := h.same (only_drewN w i)
    exact ⟨0, rfl, Int.le_refl _, hn, { h' with raw := ⟨h'.raw.r0, h'.raw.r1.imp fun _ q => ⟨Nat.le_succ_of_le q.1, q.2⟩, h'.raw.f1⟩ }⟩
  · obtain ⟨b, off, x, rfl, hblt, hx, hx0, hx1⟩ := hb at' (by omega)
    have hRW : W.heap.size ≤ R := (h.sep.get (i := 0) rfl).1
    refine (next_in R rn rc b off at' x n w (by omega) (by omega) hx0 hn hr0 h1 hf1 (by rw [h.bel.cell (p := ⟨b, off + at', none⟩) hblt]; exact hx) (by omega) hx1).mono ?_
    rintro e w' ⟨rfl, i, j, rfl⟩
    have hO : Only [R] w (((w.drewN i).setCell ⟨R, 1, none⟩ (.int .i64 (at' + 1 : Nat))).drewN j) := by
      have := ((Only.refl [R] w).trans ((only_drewN w i).mono (by simp)) (ks' := [R]) (by simp)).setCell ⟨R, 1, none⟩ (.int .i64 (at' + 1 : Nat)) (by simp)
      exact this.trans (only_drewN _ j) (by simp)
    refine ⟨_, rfl, Int.emod_nonneg _ (by omega), Int.emod_lt_of_pos _ hn, h.rawStep hO ⟨?_, ⟨at' + 1, by omega, ?_⟩, ?_⟩⟩
    · show ((w.drewN i).setCell ⟨R, 1, none⟩ _).cell? ⟨R, 0, none⟩ = _
      rw [World.cell?_setCell_other _ _ _ _ (by simp)]
      exact hr0
    · show ((w.drewN i).setCell ⟨R, 1, none⟩ _).cell? ⟨R, 1, none⟩ = _
      exact World.cell?_setCell_same' _ _ _ (by show (w.cell? _).isSome = true; rw [h1]; rfl)
    · show ((w.drewN i).setCell ⟨R, 1, none⟩ _).frozen? ⟨R, 1, none⟩ = _
      simpa using hf1

end
end Go.Proofs.YtmbgnmnaonjdgaaGreatDoor
