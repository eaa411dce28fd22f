/- PART OF A PROOF over the given program: Kp5. See the last text of the claim for the statement. -/
import Derived.Test.YtmbgnmnaonjdgaaGreatDoorKp4
namespace Go.Proofs.YtmbgnmnaonjdgaaGreatDoor
open Go Go.RowKit Go.Own

set_option maxRecDepth 100000 in
set_option maxHeartbeats 1000000 in
theorem push_any (S : Nat) (v : Value) (m x : Int) (zs : List Int) (w : World) (hm : 0 ≤ m ∧ m ≤ 1000) (hn : zs.length ≤ 1000) (hst : StackAt w S v m zs) :
    Calls Tryz.prog 16 #[.pointer (some ⟨S, 0, none⟩), .int .i64 x] w fun e w' => e = .returned (.tuple #[]) ∧ ∃ v', StackAt w' S v' (if m < zs.length + 1 then zs.length + 1 else m) (zs ++ [x]) ∧ Moved w v v' ∧ Only (S :: v.ownBlock.toList) w w' := by
  obtain ⟨info, hs, hsz, hby⟩ := ints_setup
  have HST : Hid (StackAt w S v m zs) := hst
  obtain ⟨h0, h1, f0, f1, hr, hne⟩ := hst
  have HS : Hid (Eng.ASetup Tryz.prog #[22, 22] 3 info (.int .i64 0)) := hs
  have HZ : Hid (info.size = 1) := hsz
  have HB : Hid (info.bytes = 8) := hby
  have HR : Hid (∀ o, Row (w.alloc o) 3 v (zs.map (.int .i64))) := fun o => hr.only ((Only.refl [] w).alloc o) (by simp)
  have HN : Hid (∀ b, v.ownBlock = some b → b ≠ S) := hne
  clear hr hne hs hsz hby
  go_enter Tryz.func16, Tryz.ntmps16
  go_wp2_with (at_builtin; refine wpList_row_append rfl _ _ rfl HS.out HZ.out rfl v (zs.map (.int .i64)) [.int .i64 x] ⟨w.heap.size, 0, none⟩ 1 1 rfl rfl rfl (HR.out _) ?c1 ?c2 ?c3 ?c4 ?_)
  case c1 => exact cell_one_new _ _ _
  case c2 => simp [Value.oneCell']
  case c3 => exact fits_small (by simp; omega) HB.out
  case c4 => rw [HB.out]; decide
  intro v' w' hrow hgr hblk
  have hSlt : S < w.heap.size := HST.out.lt
  have HO : Hid (Only v.ownBlock.toList w w') := ((Only.refl _ w).alloc _).trans (Only.of_grownBy hgr) (fun k hk _ => hk)
  have hSn : S ∉ v.ownBlock.toList := fun hm => by
    cases hv : v.ownBlock with
    | none => rw [hv] at hm; simp at hm
    | some b => rw [hv] at hm; simp at hm; exact HN.out b hv hm.symm
  have k0 := HO.out.cell h0 hSn hSlt
  have k1 := HO.out.cell h1 hSn hSlt
  have e0 := HO.out.frozen f0 hSn hSlt
  have e1 := HO.out.frozen f1 hSn hSlt
  obtain ⟨a', c', hv'⟩ := hrow.len
  have hlen : (zs.map (Value.int .i64) ++ [Value.int .i64 x]).length = zs.length + 1 := by simp
  rw [hlen] at hv'
  subst hv'
  have HR2 : Hid (Row w' 3 (.slice a' (zs.length + 1) c') ((zs ++ [x]).map (.int .i64))) := by rw [List.map_append]; exact hrow
  have HG : Hid (Moved w v (.slice a' (zs.length + 1) c')) := by
    rcases hblk with h | h
    · exact .inl h
    · exact .inr (.inr ⟨_, h, by simp⟩)
  clear hrow hgr hblk hSn hlen HS HZ HB HR h0 h1 f0 f1
  go_wp2
  go_region
  all_goals (try go_wp2)
  all_goals go_end0
  all_goals (have hfin := fun m' => HST.out.set (m' := m') (w2 := ((w'.setCell ⟨S, 0, none⟩ (.slice a' (zs.length + 1) c')).setCell ⟨S, 1, none⟩ (.int .i64 m')).drew) HO.out HR2.out HG.out rfl ⟨rfl, rfl, rfl⟩)
  all_goals exact ⟨rfl, _, (hfin _).1, HG.out, (hfin _).2⟩
end Go.Proofs.YtmbgnmnaonjdgaaGreatDoor
