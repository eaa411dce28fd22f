/- PART OF A PROOF over the given program: Kp4. See the last text of the claim for the statement. -/
import Derived.Test.YtmbgnmnaonjdgaaGreatDoorKp2
import Derived.Test.YtmbgnmnaonjdgaaGreatDoorKpO
namespace Go.Proofs.YtmbgnmnaonjdgaaGreatDoor
open Go Go.RowKit Go.Own

theorem Tryz.info3 : (Tryz.prog.info? 3).map (fun i => (i.size, i.bytes)) = some (1, 8) := by kernel_rfl
theorem ints_setup : ∃ info, Eng.ASetup Tryz.prog #[22, 22] 3 info (.int .i64 0) ∧ info.size = 1 ∧ info.bytes = 8 := by
  obtain ⟨i, hi, he⟩ := Option.map_eq_some_iff.1 Tryz.info3
  simp only [Prod.mk.injEq] at he
  exact ⟨i, ⟨⟨22, 22, .slice 3, rfl, rfl, Tryz.underlying22, Tryz.underlying22, fun k h => by cases h⟩, hi, by kernel_rfl⟩, he.1, he.2⟩

theorem fits_small {n b : Nat} (h : n ≤ 1000000) (hb : b = 8) : Eng.growBound n b = true := by
  subst hb
  unfold Eng.growBound
  exact Nat.ble_eq_true_of_le (by omega)

/-- WHAT A STACK IS: its struct at S, its row. -/
structure StackAt (w : World) (S : Nat) (v : Value) (m : Int) (zs : List Int) : Prop where
  c0 : w.cell? ⟨S, 0, none⟩ = some v
  c1 : w.cell? ⟨S, 1, none⟩ = some (.int .i64 m)
  f0 : w.frozen? ⟨S, 0, none⟩ = false
  f1 : w.frozen? ⟨S, 1, none⟩ = false
  row : Row w 3 v (zs.map (.int .i64))
  ne : ∀ b, v.ownBlock = some b → b ≠ S

theorem StackAt.lt {w : World} {S : Nat} {v : Value} {m : Int} {zs : List Int} (h : StackAt w S v m zs) : S < w.heap.size := by
  rcases Nat.lt_or_ge S w.heap.size with h' | h'
  · exact h'
  · have := h.c0
    simp [World.cell?, Array.getElem?_eq_none h'] at this

/-- what a call may do to a row: it stays, or stands in a new block. -/
def Moved (w : World) (v v' : Value) : Prop := v'.ownBlock = v.ownBlock ∨ v'.ownBlock = none ∨ ∃ b, v'.ownBlock = some b ∧ w.heap.size ≤ b

theorem StackAt.set {w w1 w2 : World} {S : Nat} {v v' : Value} {m m' : Int} {zs zs' : List Int} (h : StackAt w S v m zs) (hO : Only v.ownBlock.toList w w1) (hrow : Row w1 3 v' (zs'.map (.int .i64))) (hM : Moved w v v')
    (h2 : w2.heap = ((w1.setCell ⟨S, 0, none⟩ v').setCell ⟨S, 1, none⟩ (.int .i64 m')).heap) (hs : w2.os = w1.os ∧ w2.tape = w1.tape ∧ w2.output = w1.output) :
    StackAt w2 S v' m' zs' ∧ Only (S :: v.ownBlock.toList) w w2 := by
  have hlt := h.lt
  have hSn : S ∉ v.ownBlock.toList := fun hm => by
    cases hv : v.ownBlock with
    | none => rw [hv] at hm; simp at hm
    | some b => rw [hv] at hm; simp at hm; exact h.ne b hv hm.symm
  have k0 := hO.cell h.c0 hSn hlt
  have k1 := hO.cell h.c1 hSn hlt
  have e0 := hO.frozen h.f0 hSn hlt
  have e1 := hO.frozen h.f1 hSn hlt
  have hne : ∀ b, v'.ownBlock = some b → b ≠ S := fun b hb => by
    rcases hM with hM | hM | ⟨b', hM, hle⟩
    · exact h.ne b (by rw [← hM]; exact hb)
    · rw [hM] at hb; cases hb
    · rw [hM] at hb; cases hb; omega
  have hc : ∀ a, w2.cell? a = ((w1.setCell ⟨S, 0, none⟩ v').setCell ⟨S, 1, none⟩ (.int .i64 m')).cell? a := fun a => by simp only [World.cell?, h2]
  have hf : ∀ a, w2.frozen? a = ((w1.setCell ⟨S, 0, none⟩ v').setCell ⟨S, 1, none⟩ (.int .i64 m')).frozen? a := fun a => by simp only [World.frozen?, h2]
  have hO2 : Only (S :: v.ownBlock.toList) w ((w1.setCell ⟨S, 0, none⟩ v').setCell ⟨S, 1, none⟩ (.int .i64 m')) :=
    ((hO.mono fun k hk => List.mem_cons_of_mem S hk).setCell ⟨S, 0, none⟩ v' fun _ => List.mem_cons_self).setCell ⟨S, 1, none⟩ (.int .i64 m') fun _ => List.mem_cons_self
  have hO1 : Only [S] w1 ((w1.setCell ⟨S, 0, none⟩ v').setCell ⟨S, 1, none⟩ (.int .i64 m')) := ((Only.refl [S] w1).setCell ⟨S, 0, none⟩ v' fun _ => List.mem_cons_self).setCell ⟨S, 1, none⟩ (.int .i64 m') fun _ => List.mem_cons_self
  have hr2 := hrow.only hO1 fun b hb hm => hne b hb (by simpa using hm)
  refine ⟨⟨?_, ?_, ?_, ?_, ?_, hne⟩, ⟨hs.1.trans hO.os, hs.2.1.trans hO.tape, hs.2.2.trans hO.output, by rw [h2]; exact hO2.size, fun k hk hn => by rw [h2]; exact hO2.block k hk hn⟩⟩
  · rw [hc, World.cell?_setCell_other _ _ _ _ (by simp)]
    exact World.cell?_setCell_same' w1 _ _ (by rw [k0]; rfl)
  · rw [hc]
    exact World.cell?_setCell_same' _ _ _ (by rw [World.cell?_setCell_other _ _ _ _ (by simp), k1]; rfl)
  · rw [hf]; simpa using e0
  · rw [hf]; simpa using e1
  · rcases hr2 with h' | ⟨b, cap, cur, q1, q2, q3⟩
    · exact .inl h'
    · exact .inr ⟨b, cap, cur, q1, by rw [h2]; exact q2, q3⟩
end Go.Proofs.YtmbgnmnaonjdgaaGreatDoor
