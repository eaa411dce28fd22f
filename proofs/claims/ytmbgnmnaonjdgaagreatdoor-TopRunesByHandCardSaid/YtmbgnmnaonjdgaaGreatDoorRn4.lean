/- PART OF A PROOF over the given program: Rn4. See the last text of the claim for the statement. -/
import Derived.Test.YtmbgnmnaonjdgaaGreatDoorRn3
namespace Go.Proofs.YtmbgnmnaonjdgaaGreatDoor
open Go Go.RowKit Go.Own Go.Runes

/-- bytes, where they lie. -/
def BAt (w : World) (a : Option Addr) (s : List Int) : Prop := ∀ (j : Nat) x, s[j]? = some x → ∃ b off, a = some ⟨b, off, none⟩ ∧ b < w.heap.size ∧ w.cell? ⟨b, off + j, none⟩ = some (.int .u8 x)

theorem BAt.below {w w' : World} {a : Option Addr} {s : List Int} (h : BAt w a s) (hB : Below w.heap.size w w') : BAt w' a s := fun j x hj => by
  obtain ⟨b, off, rfl, hb, hc⟩ := h j x hj
  exact ⟨b, off, rfl, Nat.lt_of_lt_of_le hb hB.size, by rw [hB.cell (p := ⟨b, off + j, none⟩) hb]; exact hc⟩

/-- Decode, of what lies at a place of bytes. -/
theorem decode_at {b off c at' : Nat} {s : List Int} {w : World} {e : TypeId} {fr : Nat × Nat} (hL : w.heap[0]? = some (.cells leadsCells.toArray e fr)) (hs : BAt w (some ⟨b, off, none⟩) s) (hby : ∀ x ∈ s, byte x) (hat : at' < s.length) (hc : s.length ≤ c) :
    Calls Tryz.prog 27 #[.slice (some ⟨b, off + at', none⟩) (s.length - at') (c - at')] w fun e w' => e = .returned (.tuple #[.int .i64 (dec (s.drop at')).1, .int .i64 (dec (s.drop at')).2]) ∧ Below w.heap.size w w' := by
  have hd : s.drop at' = s[at'] :: s.drop (at' + 1) := List.drop_eq_getElem_cons hat
  obtain ⟨b1, o1, he, hb, h0⟩ := hs at' _ (List.getElem?_eq_getElem hat)
  simp only [Option.some.injEq, Addr.mk.injEq] at he
  obtain ⟨rfl, rfl, _⟩ := he
  rw [hd]
  refine decode_any b (off + at') (s.length - at') (c - at') s[at'] (s.drop (at' + 1)) w hL (by rw [List.length_drop]; omega) (by omega) hb h0 (fun j x hj => ?_) (hby _ (List.getElem_mem _)) (fun x hx => hby x (List.mem_of_mem_drop hx))
  rw [List.getElem?_drop] at hj
  obtain ⟨b2, o2, he, _, h2⟩ := hs _ _ hj
  simp only [Option.some.injEq, Addr.mk.injEq] at he
  obtain ⟨rfl, rfl, _⟩ := he
  rw [show off + at' + 1 + j = off + (at' + 1 + j) by omega]
  exact h2

/-- all of it is cut, behind so many runes. -/
def Done (s : List Int) (J : Nat) : Prop := (cutSt s J).1 = s.length ∧ ∀ j, j < J → (cutSt s j).1 < s.length
theorem Done.unique {s : List Int} {J K : Nat} (h : Done s J) (g : Done s K) : J = K := by
  rcases Nat.lt_trichotomy J K with h' | h' | h'
  · have := g.2 J h'; have := h.1; omega
  · exact h'
  · have := h.2 K h'; have := g.1; omega

def ints (l : List Int) : List Value := l.map (.int .i64)
theorem ints_snoc (l : List Int) (x : Int) : ints l ++ [.int .i64 x] = ints (l ++ [x]) := by simp [ints]

def CutIs (W : World) (s : List Int) (v1 v2 : Value) (w : World) : Prop :=
  ∃ J, Done s J ∧ Row w 3 v1 (ints (cutSt s J).2.1) ∧ Row w 3 v2 (ints ((cutSt s J).2.2 ++ [(s.length : Int)])) ∧ Below W.heap.size W w

def CutHead (W : World) (s : List Int) (v1 v2 v3 : Value) (w : World) : Prop :=
  ∃ j, (∀ i, i < j → (cutSt s i).1 < s.length) ∧ v3 = .int .i64 ((cutSt s j).1 : Nat) ∧ Held W w [(v1, 3, ints (cutSt s j).2.1), (v2, 3, ints ((cutSt s j).2.2 ++ [((cutSt s j).1 : Int)]))]

theorem row_slice {w : World} {e : TypeId} {v : Value} {l : List Value} (h : Row w e v l) : ∃ a c, v = .slice a l.length c := h.len

set_option maxRecDepth 100000 in
set_option maxHeartbeats 4000000 in
theorem cut_any (a : Option Addr) (c : Nat) (s : List Int) (w : World) {e : TypeId} {fr : Nat × Nat} (hL : w.heap[0]? = some (.cells leadsCells.toArray e fr)) (hs : BAt w a s) (hby : ∀ x ∈ s, byte x) (hc : s.length ≤ c) (h80 : s.length ≤ 1000) :
    Calls Tryz.prog 25 #[.slice a s.length c] w fun e w' => ∃ v1 v2, e = .returned (.tuple #[v1, v2]) ∧ CutIs w s v1 v2 w' := by
  obtain ⟨info, hs', hsz, hby'⟩ := ints_setup
  have HA := Lib.hid hs'
  have HZ := Lib.hid hsz
  have HY := Lib.hid hby'
  have HL := Lib.hid hL
  have HS := Lib.hid hs
  have HB := Lib.hid hby
  have h0lt : 0 < w.heap.size := by
    rcases Nat.eq_zero_or_pos w.heap.size with h' | h'
    · rw [Array.getElem?_eq_none (by omega)] at hL; cases hL
    · exact h'
  clear hs' hsz hby' hL hs hby
  go_enter Tryz.func25, Tryz.ntmps25
  go_wp2_with fail
  go_loopw [4, 5, 6] (fun v1 v2 v3 wr => CutHead w s v1 v2 v3 wr) (fun _ _ i _ => s.length - (intOf i).toNat)
  case atStart =>
    exact ⟨0, fun i hi => by omega, rfl, (((Held.start (Below.refl _ w)).addNil 3).lit #[.int .i64 0] 3)⟩
  case round =>
    obtain ⟨j, hno, rfl, hh⟩ := hrel
    have hle := cutSt_le s j
    by_cases hlt : (cutSt s j).1 < s.length
    · have hge := cutSt_ge s j hlt
      have hw := dec_width (s.drop (cutSt s j).1) (by
        intro hn
        have := congrArg List.length hn
        simp at this
        omega)
      have hl1 : (ints (cutSt s j).2.1).length = j := by rw [ints, List.length_map]; exact (cutSt_len s j).1
      have hl2 : (ints ((cutSt s j).2.2 ++ [((cutSt s j).1 : Int)])).length = j + 1 := by rw [ints, List.length_map, List.length_append, (cutSt_len s j).2]; rfl
      obtain ⟨b, off, rfl, hb, _⟩ := HS.out (cutSt s j).1 _ (List.getElem?_eq_getElem hlt)
      have hcall := fun wx (hB : Below w.heap.size w wx) => decode_at (w := wx) (e := e) (fr := fr) (c := c) (by rw [hB.block 0 h0lt]; exact HL.out) (HS.out.below hB) HB.out hlt hc
      have HCall := Lib.hid hcall
      have hst1 : cutSt s (j + 1) = ((cutSt s j).1 + (dec (s.drop (cutSt s j).1)).2, (cutSt s j).2.1 ++ [(dec (s.drop (cutSt s j).1)).1], (cutSt s j).2.2 ++ [((cutSt s j).1 : Int)]) := rfl
      have HN := Lib.hid hno
      rw [List.length_drop] at hw
      generalize dec (s.drop (cutSt s j).1) = d at *
      generalize hp : (cutSt s j).1 = p at *
      generalize (cutSt s j).2.1 = l1 at *
      generalize (cutSt s j).2.2 = l2 at *
      obtain ⟨d1, d2⟩ := d
      have HST := Lib.hid hst1
      have HP := Lib.hid hp
      obtain ⟨a1, c1, hv1⟩ := row_slice (hh.row (i := 0) rfl)
      obtain ⟨a2, c2, hv2⟩ := row_slice (hh.row (i := 1) rfl)
      rw [hl1] at hv1
      rw [hl2] at hv2
      subst hv1
      subst hv2
      have HH := Lib.hid hh
      have HL1 := Lib.hid hl1
      have HL2 := Lib.hid hl2
      obtain ⟨hw1, hw2, hw3⟩ := hw
      simp only at hw1 hw2 hw3
      clear hh hl1 hl2 hst1 hcall hno hp
      go_wp2_with fail
      refine (HCall.out _ HH.out.bel).mono ?_
      rintro e wb ⟨rfl, hB2⟩
      have HH2 := Lib.hid (HH.out.below hB2)
      clear hB2 HCall
      go_wp2_with (at_builtin; refine wpList_row_append rfl _ _ rfl HA.out HZ.out rfl (.slice a1 j c1) (ints l1) [.int .i64 d1] ⟨wb.heap.size, 0, none⟩ 1 1 rfl rfl rfl ((HH2.out.alloc _).row (i := 0) rfl) (cell_one_new _ _ _) (by simp [Value.oneCell']) (fits_small (by rw [HL1.out]; simp; omega) HY.out) (by rw [HY.out]; decide) ?_)
      intro v1' wd hrow hgr hblk
      have HH3 := Lib.hid (HH2.out.app (i := 0) rfl hrow hgr (by simpa using hblk))
      clear hrow hgr hblk HH2
      go_wp2_with (at_builtin; refine wpList_row_append rfl _ _ rfl HA.out HZ.out rfl (.slice a2 (j + 1) c2) (ints (l2 ++ [(p : Int)])) [.int .i64 ((p : Int) + d2)] ⟨wd.heap.size, 0, none⟩ 1 1 rfl rfl rfl ((HH3.out.alloc _).row (i := 1) rfl) (cell_one_new _ _ _) (by simp [Value.oneCell']) (fits_small (by rw [HL2.out]; simp; omega) HY.out) (by rw [HY.out]; decide) ?_)
      intro v2' we hrow hgr hblk
      have HH4 := Lib.hid (HH3.out.app (i := 1) rfl hrow hgr (by simpa using hblk))
      clear hrow hgr hblk HH3
      go_wp2_with fail
      refine ⟨⟨j + 1, fun i hi => ?_, ?_, ?_⟩, ?_⟩
      · rcases Nat.lt_or_ge i j with h' | h'
        · exact HN.out i h'
        · have : i = j := by omega
          rw [this, HP.out]
          exact hlt
      · rw [HST.out]
        exact int_eq (by simp)
      · rw [HST.out]
        have := HH4.out
        rw [ints_snoc, ints_snoc] at this
        exact this
      · simp only [intOf]
        omega
    · have hJ : Done s j := ⟨by omega, hno⟩
      have hr1 := hh.row (i := 0) rfl
      have hr2 := hh.row (i := 1) rfl
      rw [hJ.1] at hr2
      have hfin : CutIs w s _ _ _ := ⟨j, hJ, hr1, hr2, hh.bel⟩
      have HF := Lib.hid hfin
      have hlt' : ¬ (((cutSt s j).1 : Int) < (s.length : Int)) := by omega
      clear hr1 hr2 hh hfin hno
      go_wp2_with fail
      go_ret2
      exact ⟨_, _, rfl, HF.out⟩
end Go.Proofs.YtmbgnmnaonjdgaaGreatDoor
