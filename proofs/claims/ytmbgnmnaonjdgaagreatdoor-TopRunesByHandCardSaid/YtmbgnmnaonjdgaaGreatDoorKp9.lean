/- PART OF A PROOF over the given program: Kp9. See the last text of the claim for the statement. -/
import Derived.Test.YtmbgnmnaonjdgaaGreatDoorKp8
namespace Go.Proofs.YtmbgnmnaonjdgaaGreatDoor
open Go Go.RowKit Go.Own

set_option maxRecDepth 100000 in
set_option maxHeartbeats 1000000 in
theorem add_new (S ba n ca i : Nat) (v : Value) (ls : List Int) (k0 : Int) (w : World) (hi : i < n) (hn : ls.length ≤ 1000) (hbS : ba ≠ S)
    (h0 : w.cell? ⟨S, 0, none⟩ = some v) (f0 : w.frozen? ⟨S, 0, none⟩ = false) (h1 : w.cell? ⟨S, 1, none⟩ = some (.slice (some ⟨ba, 0, none⟩) n ca))
    (hk : w.cell? ⟨ba, i, none⟩ = some (.int .i64 k0)) (fk : w.frozen? ⟨ba, i, none⟩ = false)
    (hr : Row w 3 v (ls.map (.int .i64))) (hne : ∀ b, v.ownBlock = some b → b ≠ S ∧ b ≠ ba)
    (hh : Calls Tryz.prog 19 #[.pointer (some ⟨S, 0, none⟩), .int .i64 i] w fun e w' => e = .returned (.bool false) ∧ w' = w) :
    Calls Tryz.prog 14 #[.pointer (some ⟨S, 0, none⟩), .int .i64 i] w fun e w' => e = .returned (.bool true) ∧ ∃ v' w2, w' = w2.setCell ⟨S, 0, none⟩ v' ∧ Only (ba :: v.ownBlock.toList) w w2 ∧ Row w2 3 v' ((ls ++ [(i : Int)]).map (.int .i64)) ∧ Moved w v v' ∧
      w2.heap[ba]? = (w.setCell ⟨ba, i, none⟩ (.int .i64 ls.length)).heap[ba]? := by
  have hi0 : ¬ ((i : Int) < 0) := by omega
  have hi1 : ¬ ((n : Int) ≤ (i : Int)) := by omega
  obtain ⟨a0, c0, hv⟩ := hr.len
  rw [List.length_map] at hv
  subst hv
  obtain ⟨info, hs, hsz, hby⟩ := ints_setup
  have HS : Hid (Eng.ASetup Tryz.prog #[22, 22] 3 info (.int .i64 0)) := hs
  have HZ : Hid (info.size = 1) := hsz
  have HB : Hid (info.bytes = 8) := hby
  have HRow : Hid (Row w 3 (.slice a0 ls.length c0) (ls.map (.int .i64))) := hr
  have HR : Hid (∀ o, Row ((w.setCell ⟨ba, i, none⟩ (.int .i64 ls.length)).alloc o).drew 3 (.slice a0 ls.length c0) (ls.map (.int .i64))) := fun o =>
    hr.only ((((Only.refl [ba] w).setCell ⟨ba, i, none⟩ (.int .i64 ls.length) fun _ => List.mem_cons_self).alloc o).drew) fun b hb hm => (hne b hb).2 (by simpa using hm)
  have HN : Hid (∀ b, (Value.slice a0 ls.length c0).ownBlock = some b → b ≠ S ∧ b ≠ ba) := hne
  clear hr hne hs hsz hby
  go_enter Tryz.func14, Tryz.ntmps14
  go_wp2_with fail
  refine hh.mono ?_
  rintro e w' ⟨rfl, hw⟩
  subst hw
  clear hh
  go_wp2_with fail
  go_region
  go_wp2_with (at_builtin; refine wpList_row_append rfl _ _ rfl HS.out HZ.out rfl (.slice a0 ls.length c0) (ls.map (.int .i64)) [.int .i64 i] ⟨w'.heap.size, 0, none⟩ 1 1 rfl rfl rfl (HR.out _) ?c1 ?c2 ?c3 ?c4 ?_)
  case c1 =>
    intro j u hj
    have h' := cell_one_new (w'.setCell ⟨ba, i, none⟩ (.int .i64 ls.length)) (.int .i64 i) 3 j u hj
    have e : (w'.setCell ⟨ba, i, none⟩ (.int .i64 ls.length)).heap.size = w'.heap.size := by simp
    rw [e] at h'
    exact h'
  case c2 => simp [Value.oneCell']
  case c3 => exact fits_small (by simp; omega) HB.out
  case c4 => rw [HB.out]; decide
  intro v' w2 hrow hgr hblk
  have hSlt : S < w'.heap.size := by
    rcases Nat.lt_or_ge S w'.heap.size with h' | h'
    · exact h'
    · simp [World.cell?, Array.getElem?_eq_none h'] at h0
  have hO1 : Only [ba] w' ((w'.setCell ⟨ba, i, none⟩ (.int .i64 ls.length)).alloc (.cells #[.int .i64 i] 3)).drew := (((Only.refl [ba] w').setCell ⟨ba, i, none⟩ (.int .i64 ls.length) fun _ => List.mem_cons_self).alloc _).drew
  have HO : Hid (Only (ba :: (Value.slice a0 ls.length c0).ownBlock.toList) w' w2) := (hO1.mono fun k hk => by simp at hk; simp [hk]).trans (Only.of_grownBy hgr) (fun k hk _ => List.mem_cons_of_mem _ hk)
  have hSn : S ∉ ba :: (Value.slice a0 ls.length c0).ownBlock.toList := fun hm => by
    rcases List.mem_cons.1 hm with hm | hm
    · exact hbS hm.symm
    · cases hv : (Value.slice a0 ls.length c0).ownBlock with
      | none => rw [hv] at hm; simp at hm
      | some b => rw [hv] at hm; simp at hm; exact (HN.out b hv).1 hm.symm
  have k0 := HO.out.cell h0 hSn hSlt
  have e0 := HO.out.frozen f0 hSn hSlt
  obtain ⟨a', c', hv'⟩ := hrow.len
  have hlen : (ls.map (Value.int .i64) ++ [Value.int .i64 (i : Int)]).length = ls.length + 1 := by simp
  rw [hlen] at hv'
  subst hv'
  have HR2 : Hid (Row w2 3 (.slice a' (ls.length + 1) c') ((ls ++ [(i : Int)]).map (.int .i64))) := by rw [List.map_append]; exact hrow
  have HG : Hid (Moved w' (.slice a0 ls.length c0) (.slice a' (ls.length + 1) c')) := by
    rcases hblk with h | h
    · exact .inl h
    · exact .inr (.inr ⟨_, h, by simp⟩)
  have hba : ba < w'.heap.size := by
    rcases Nat.lt_or_ge ba w'.heap.size with h' | h'
    · exact h'
    · simp [World.cell?, Array.getElem?_eq_none h'] at hk
  have HBA : Hid (w2.heap[ba]? = (w'.setCell ⟨ba, i, none⟩ (.int .i64 ls.length)).heap[ba]?) := by
    have q1 := hgr.block ba (by simp; omega) (fun e => (HN.out ba e.symm).2 rfl)
    refine q1.trans ?_
    exact Below.heap_alloc (w'.setCell ⟨ba, i, none⟩ (.int .i64 ls.length)) _ ba (by simpa using hba)
  clear hlen hrow hgr hblk hSn hba HS HZ HB HR h0 h1 f0 hk fk hO1
  go_wp2
  go_ret
  exact ⟨rfl, _, w2, rfl, HO.out, HR2.out, HG.out, HBA.out⟩
end Go.Proofs.YtmbgnmnaonjdgaaGreatDoor
