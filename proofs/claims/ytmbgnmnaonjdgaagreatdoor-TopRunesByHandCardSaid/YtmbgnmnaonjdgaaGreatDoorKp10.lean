/- PART OF A PROOF over the given program: Kp10. See the last text of the claim for the statement. -/
import Derived.Test.YtmbgnmnaonjdgaaGreatDoorKp9
import Derived.Test.YtmbgnmnaonjdgaaGreatDoorKpS
import Derived.Deep.QuietTactic
import Derived.BigQuiet
import Derived.IntWalk
import Derived.Lib.Hide
import Derived.Laws.MakeOwn
import Derived.Laws.OwnMore
namespace Go.Proofs.YtmbgnmnaonjdgaaGreatDoor
open Go Go.RowKit Go.Own

set_option maxHeartbeats 1000000 in
theorem next_out (R n c at' : Nat) (a : Option Addr) (k : Int) (w : World) (h : n ≤ at') (h0 : w.cell? ⟨R, 0, none⟩ = some (.slice a n c)) (h1 : w.cell? ⟨R, 1, none⟩ = some (.int .i64 at')) :
    Calls Tryz.prog 13 #[.pointer (some ⟨R, 0, none⟩), .int .i64 k] w fun e w' => e = .returned (.int .i64 0) ∧ ∃ m, w' = w.drewN m := by
  go_enter Tryz.func13, Tryz.ntmps13
  go_wp2
  go_quiet (fail)
  go_wp2
  go_ret
  exact ⟨rfl, _, rfl⟩

set_option maxHeartbeats 1000000 in
theorem next_in (R n c b off at' : Nat) (x k : Int) (w : World) (h : at' < n) (hn : at' < 1000000) (hx0 : 0 ≤ x) (hk : 0 < k) (h0 : w.cell? ⟨R, 0, none⟩ = some (.slice (some ⟨b, off, none⟩) n c)) (h1 : w.cell? ⟨R, 1, none⟩ = some (.int .i64 at')) (f1 : w.frozen? ⟨R, 1, none⟩ = false)
    (hx : w.cell? ⟨b, off + at', none⟩ = some (.int .u8 x)) (hbR : b ≠ R) (hx2 : x ≤ 255) :
    Calls Tryz.prog 13 #[.pointer (some ⟨R, 0, none⟩), .int .i64 k] w fun e w' => e = .returned (.int .i64 (x % k)) ∧ ∃ m m', w' = ((w.drewN m).setCell ⟨R, 1, none⟩ (.int .i64 (at' + 1 : Nat))).drewN m' := by
  go_enter Tryz.func13, Tryz.ntmps13
  go_wp2
  go_quiet (fail)
  go_wp2
  have e1 : IntKind.i64.wrap ((at' : Int) + 1 - 1) = at' := by rw [Int.add_sub_cancel]; exact IntWalk.i64_in _ (by omega)
  have e2 : IntKind.i64.wrap x = x := IntWalk.i64_in _ (by omega)
  have e3 : ((at' : Int)).toNat = at' := rfl
  have e4 : x.tmod k = x % k := Int.tmod_eq_emod_of_nonneg hx0
  have e5 : (0 : Int) ≤ (at' : Int) := by omega
  have e6 : (at' : Int) < (n : Int) := by omega
  go_quiet (fail)
  clear e1 e2 e3 e4 e5 e6
  go_wp2
  go_ret
  exact ⟨rfl, _, _, rfl⟩

set_option maxRecDepth 100000 in
theorem make_ints (m : Nat) (hm : m ≤ 1000) (w : World) : (Instr.makeSlice 22 (.int .i64 m) (.int .i64 m)).run Tryz.prog w = .ok (.slice (some ⟨w.heap.size, 0, none⟩) m m) (w.alloc (.cells (Array.replicate m (.int .i64 0)) 3)) := by
  obtain ⟨info, hs, hsz, hby⟩ := ints_setup
  have hz : info.zero = some (.int .i64 0) := by
    have := hs.zero
    unfold Eng.zeroOf at this
    rw [hs.info] at this
    cases e : info.zero with
    | none => simp [e] at this
    | some z =>
      cases e2 : Eng.plainV z with
      | false => simp [e, e2] at this
      | true => simpa [e, e2] using this
  have h := run_makeSlice (P := Tryz.prog) (w := w) 22 3 info (.int .i64 0) Tryz.underlying22 hs.info hz .i64 .i64 m m (by omega) (Int.le_refl _) (by rw [hsz, Int.toNat_natCast]; omega) (by rw [hby]; omega) (by omega)
  rw [h, hsz]
  simp only [Int.toNat_natCast, Nat.mul_one]
  have e : madeCells (Value.int .i64 0).cells m = Array.replicate m (.int .i64 0) := by
    apply Array.toList_inj.1
    have := toList_madeCells_one (.int .i64 0) m
    simpa [Value.cells] using this
  rw [e]

set_option maxRecDepth 100000 in
set_option maxHeartbeats 1000000 in
theorem new_any (n : Int) (m : Nat) (w : World) (hn : n ≤ 1000) (hm : (m : Int) = max n 0) :
    Calls Tryz.prog 12 #[.int .i64 n] w fun e w' => e = .returned (.pointer (some ⟨w.heap.size + 1, 0, none⟩)) ∧ w' = (w.alloc (.cells (Array.replicate m (.int .i64 0)) 3)).alloc (.cells #[.slice none 0 0, .slice (some ⟨w.heap.size, 0, none⟩) m m] 86) := by
  have hmk := Lib.hid (make_ints m (by omega) w)
  rcases Int.lt_or_le n 0 with h | h
  · have e : m = 0 := by omega
    subst e
    clear hm
    have hmk0 : (Instr.makeSlice 22 (.int .i64 0) (.int .i64 0)).run Tryz.prog w = .ok (.slice (some ⟨w.heap.size, 0, none⟩) 0 0) (w.alloc (.cells (Array.replicate 0 (.int .i64 0)) 3)) := hmk.out
    go_enter Tryz.func12, Tryz.ntmps12
    go_wp2
    go_ret
    exact ⟨rfl, rfl⟩
  · have e : n = m := by omega
    subst e
    clear hm
    have hmk0 := hmk.out
    go_enter Tryz.func12, Tryz.ntmps12
    go_wp2
    go_ret
    exact ⟨rfl, rfl⟩

set_option maxHeartbeats 1000000 in
theorem ints_same (a1 a2 : Option Addr) (c1 c2 : Nat) (zs : List Int) (w : World) (hz : zs.length ≤ 1000000) (h1 : ∀ j x, zs[j]? = some x → ∃ b off, a1 = some ⟨b, off, none⟩ ∧ w.cell? ⟨b, off + j, none⟩ = some (.int .i64 x)) (h2 : ∀ j x, zs[j]? = some x → ∃ b off, a2 = some ⟨b, off, none⟩ ∧ w.cell? ⟨b, off + j, none⟩ = some (.int .i64 x)) :
    Calls Tryz.prog 21 #[.slice a1 zs.length c1, .slice a2 zs.length c2] w fun e w' => e = .returned (.bool true) ∧ ∃ m, w' = w.drewN m := by
  have H1 := Lib.hid h1
  have H2 := Lib.hid h2
  clear h1 h2
  go_enter Tryz.func21, Tryz.ntmps21
  go_wp2
  go_loopw [13] (fun i wr => ∃ k m : Nat, k ≤ zs.length ∧ i = .int .i64 k ∧ wr = w.drewN m) (fun i _ => zs.length - (intOf i).toNat)
  case atStart => exact ⟨0, 0, Nat.zero_le _, rfl, rfl⟩
  case round =>
    obtain ⟨k, m, hk, rfl, rfl⟩ := hrel
    by_cases hlt : k < zs.length
    · have hx : zs[k]? = some zs[k] := List.getElem?_eq_getElem hlt
      obtain ⟨b1, o1, rfl, g1⟩ := H1.out k _ hx
      obtain ⟨b2, o2, rfl, g2⟩ := H2.out k _ hx
      clear hx
      have e0 : (0 : Int) ≤ (k : Int) := by omega
      have e1 : (k : Int) < (zs.length : Int) := by omega
      have e2 : ((k : Int)).toNat = k := rfl
      go_wp2
      go_quiet (fail)
      clear e2
      go_wp2
      exact ⟨⟨k + 1, _, by omega, by go_num, rfl⟩, by simp [intOf]; omega⟩
    · have e1 : ¬ ((k : Int) < (zs.length : Int)) := by omega
      go_wp2
      go_ret
      exact ⟨rfl, m, rfl⟩

set_option maxRecDepth 100000 in
set_option maxHeartbeats 1000000 in
/-- List: what is in, in a row of its own. -/
theorem list_any (S : Nat) (v : Value) (zs : List Int) (w : World) (hn : zs.length ≤ 1000) (h0 : w.cell? ⟨S, 0, none⟩ = some v) (hr : Row w 3 v (zs.map (.int .i64))) :
    Calls Tryz.prog 22 #[.pointer (some ⟨S, 0, none⟩)] w fun e w' => ∃ v', e = .returned v' ∧ Row w' 3 v' (zs.map (.int .i64)) ∧ Below w.heap.size w w' := by
  obtain ⟨info, hs, hsz, hby⟩ := ints_setup
  have HS : Hid (Eng.ASetup Tryz.prog #[22, 22] 3 info (.int .i64 0)) := hs
  have HZ : Hid (info.size = 1) := hsz
  have HB : Hid (info.bytes = 8) := hby
  clear hs hsz hby
  rcases hr with ⟨rfl, hz⟩ | ⟨b, cap, cur, rfl, hh, hc, hcs, hcell⟩
  · have hz' : zs = [] := by simpa using hz
    subst hz'
    clear hz HS HZ HB
    go_enter Tryz.func22, Tryz.ntmps22
    go_wp2
    go_ret
    exact ⟨_, rfl, .inl ⟨rfl, rfl⟩, Below.refl _ _⟩
  · rw [List.length_map] at h0
    have HC : Hid (∀ (j : Nat) u, (zs.map (Value.int .i64))[j]? = some u → w.cell? ((⟨b, 0, none⟩ : Addr).add j) = some u) := fun j u hj => by
      rw [Eng.addr_add, Nat.zero_add]
      simp [World.cell?, hh, hcell j u hj]
    clear hh hc hcs hcell
    go_enter Tryz.func22, Tryz.ntmps22
    go_wp2_with (at_builtin; refine wpList_row_append rfl _ _ rfl HS.out HZ.out rfl (.slice none 0 0) [] (zs.map (.int .i64)) ⟨b, 0, none⟩ zs.length cap rfl rfl (by simp) (.inl ⟨rfl, rfl⟩) HC.out ?c2 ?c3 ?c4 ?_)
    case c2 => simp [Value.oneCell']
    case c3 => exact fits_small (by simp; omega) HB.out
    case c4 => rw [HB.out]; decide
    intro v' w' hrow hgr hblk
    clear HS HZ HB HC h0
    have hB : Below w.heap.size w w' := ⟨hgr.os, hgr.tape, hgr.output, hgr.size, fun k hk => hgr.block k hk (by simp [Value.ownBlock])⟩
    have HR := Lib.hid hrow
    have HB2 := Lib.hid hB
    clear hrow hgr hblk hB
    go_wp2
    go_ret
    exact ⟨_, rfl, HR.out, HB2.out⟩
end Go.Proofs.YtmbgnmnaonjdgaaGreatDoor
