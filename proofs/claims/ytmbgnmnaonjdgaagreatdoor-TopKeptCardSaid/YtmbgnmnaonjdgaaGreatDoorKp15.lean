/- PART OF A PROOF over the given program: Kp15. See the last text of the claim for the statement. -/
import Derived.Test.YtmbgnmnaonjdgaaGreatDoorKp14
import Derived.Deep.DeepCutAuto
import Derived.Deep.CutBlock
namespace Go.Proofs.YtmbgnmnaonjdgaaGreatDoor
open Go Go.RowKit Go.Own

abbrev startW (w1 : World) (rv : Value) (room : Nat) : World := (((w1.alloc (.cells #[rv, .int .i64 0] 33)).alloc (.cells (Array.replicate room (.int .i64 0)) 3)).alloc (.cells #[.slice none 0 0, .slice (some ⟨w1.heap.size + 1, 0, none⟩) room room] 86)).alloc (.cells #[.slice none 0 0, .int .i64 0] 38)

theorem kept_start (W w1 : World) (hB : Below W.heap.size W w1) (rv : Value) (room : Nat) :
    Kept W w1.heap.size (w1.heap.size + 1 + 1) (w1.heap.size + 1 + 1 + 1) (w1.heap.size + 1) room rv (startW w1 rv room) 0 (.slice none 0 0) (.slice none 0 0) (.slice none 0 0) (.slice none 0 0) [] (List.replicate room 0) [] [] [] 0 := by
  have hle := hB.size
  have hnil : ∀ w : World, Row w 3 (.slice none 0 0) (([] : List Int).map (.int .i64)) := fun w => .inl ⟨rfl, rfl⟩
  have b1 : Below W.heap.size W (startW w1 rv room) := (((hB.alloc hle _).alloc (by simp; omega) _).alloc (by simp; omega) _).alloc (by simp; omega) _
  have hsz : (startW w1 rv room).heap.size = w1.heap.size + 4 := by simp [startW]
  have hn : ∀ (w : World) (o : Obj) (n : Nat), n = w.heap.size → (w.alloc o).heap[n]? = some o := fun w o n e => by rw [e]; exact heap_alloc_new w o
  have ho : ∀ (w : World) (o : Obj) (n : Nat), n < w.heap.size → (w.alloc o).heap[n]? = w.heap[n]? := fun w o n e => Below.heap_alloc w o n e
  have g0 : (startW w1 rv room).heap[w1.heap.size]? = some (.cells #[rv, .int .i64 0] 33 (0, 0)) := by
    rw [startW, ho _ _ _ (by simp; omega), ho _ _ _ (by simp; omega), ho _ _ _ (by simp), hn _ _ _ rfl]
  have g1 : (startW w1 rv room).heap[w1.heap.size + 1]? = some (.cells (Array.replicate room (.int .i64 0)) 3 (0, 0)) := by
    rw [startW, ho _ _ _ (by simp), ho _ _ _ (by simp), hn _ _ _ (by simp)]
  have g2 : (startW w1 rv room).heap[w1.heap.size + 2]? = some (.cells #[.slice none 0 0, .slice (some ⟨w1.heap.size + 1, 0, none⟩) room room] 86 (0, 0)) := by
    rw [startW, ho _ _ _ (by simp), hn _ _ _ (by simp)]
  have g3 : (startW w1 rv room).heap[w1.heap.size + 3]? = some (.cells #[.slice none 0 0, .int .i64 0] 38 (0, 0)) := by
    rw [startW, hn _ _ _ (by simp)]
  generalize startW w1 rv room = w at *
  refine ⟨b1, ⟨by simp [World.cell?, g0], ⟨0, Nat.le_refl _, by simp [World.cell?, g0]⟩, by simp [World.frozen?, g0]⟩, ⟨by simp [World.cell?, g2], by simp [World.cell?, g2], by simp [World.frozen?, g2], ?_, hnil _, by simp, by simp⟩,
    ⟨by simp [World.cell?, g3], by simp [World.cell?, g3], by simp [World.frozen?, g3], by simp [World.frozen?, g3], hnil _, by simp [Value.ownBlock]⟩, hnil _, hnil _, ⟨?_, ?_⟩⟩
  · exact .inr ⟨_, room, _, by simp, g1, by simp, by simp, fun j x hj => by simpa [List.getElem?_replicate, Array.getElem?_replicate] using hj⟩
  · intro o ho b hb
    subst hb
    simp [Value.ownBlock] at ho
    omega
  · intro i j b c hi hj hij
    have hi8 : i < 8 := by
      rcases Nat.lt_or_ge i 8 with h' | h'
      · exact h'
      · rw [List.getElem?_eq_none (by simpa using h')] at hi; cases hi
    have hj8 : j < 8 := by
      rcases Nat.lt_or_ge j 8 with h' | h'
      · exact h'
      · rw [List.getElem?_eq_none (by simpa using h')] at hj; cases hj
    have hi4 : (i = 0 ∧ b = w1.heap.size) ∨ (i = 1 ∧ b = w1.heap.size + 2) ∨ (i = 2 ∧ b = w1.heap.size + 3) ∨ (i = 3 ∧ b = w1.heap.size + 1) := by
      match i, hi8, hi with
      | 0, _, hi => simp at hi; omega
      | 1, _, hi => simp at hi; omega
      | 2, _, hi => simp at hi; omega
      | 3, _, hi => simp at hi; omega
      | 4, _, hi => simp [Value.ownBlock] at hi
      | 5, _, hi => simp [Value.ownBlock] at hi
      | 6, _, hi => simp [Value.ownBlock] at hi
      | 7, _, hi => simp [Value.ownBlock] at hi
    have hj4 : (j = 0 ∧ c = w1.heap.size) ∨ (j = 1 ∧ c = w1.heap.size + 2) ∨ (j = 2 ∧ c = w1.heap.size + 3) ∨ (j = 3 ∧ c = w1.heap.size + 1) := by
      match j, hj8, hj with
      | 0, _, hi => simp at hi; omega
      | 1, _, hi => simp at hi; omega
      | 2, _, hi => simp at hi; omega
      | 3, _, hi => simp at hi; omega
      | 4, _, hi => simp [Value.ownBlock] at hi
      | 5, _, hi => simp [Value.ownBlock] at hi
      | 6, _, hi => simp [Value.ownBlock] at hi
      | 7, _, hi => simp [Value.ownBlock] at hi
    omega

section
variable {W : World} {R S T A room : Nat} {rv : Value} {w : World} {K : Nat} {v u p q : Value} {l ats k l2 k2 : List Int} {m : Int}
theorem kept_papp {o : Obj} {p' : Value} {wd : World} {n : Int} (h : Kept W R S T A room rv w K v u p q l ats k l2 k2 m) (hrow : Row wd 3 p' (l2.map (.int .i64) ++ [.int .i64 n])) (hgr : (w.alloc o).grownBy wd p.ownBlock) (hblk : p'.ownBlock = p.ownBlock ∨ p'.ownBlock = some (w.alloc o).heap.size) :
    Kept W R S T A room rv wd K v u p' q l ats k (l2 ++ [n]) k2 m := by
  refine h.pStep (((Only.refl _ w).alloc _).trans (Only.of_grownBy hgr) (fun k hk _ => hk)) ?_ (by rw [List.map_append]; exact hrow)
  rcases hblk with h' | h'
  · exact .inl h'
  · exact .inr (.inr ⟨_, h', by simp⟩)
theorem kept_qapp {o : Obj} {q' : Value} {wd : World} {n : Int} (h : Kept W R S T A room rv w K v u p q l ats k l2 k2 m) (hrow : Row wd 3 q' (k2.map (.int .i64) ++ [.int .i64 n])) (hgr : (w.alloc o).grownBy wd q.ownBlock) (hblk : q'.ownBlock = q.ownBlock ∨ q'.ownBlock = some (w.alloc o).heap.size) :
    Kept W R S T A room rv wd K v u p q' l ats k l2 (k2 ++ [n]) m := by
  refine h.qStep (((Only.refl _ w).alloc _).trans (Only.of_grownBy hgr) (fun k hk _ => hk)) ?_ (by rw [List.map_append]; exact hrow)
  rcases hblk with h' | h'
  · exact .inl h'
  · exact .inr (.inr ⟨_, h', by simp⟩)
theorem kept_pnil (h : Kept W R S T A room rv w K v u p q l ats k l2 k2 m) : Kept W R S T A room rv w K v u (.slice none 0 0) q l ats k [] k2 m :=
  h.pStep (Only.refl _ w) (.inr (.inl rfl)) (.inl ⟨rfl, rfl⟩)
theorem kept_qnil (h : Kept W R S T A room rv w K v u p q l ats k l2 k2 m) : Kept W R S T A room rv w K v u p (.slice none 0 0) l ats k l2 [] m :=
  h.qStep (Only.refl _ w) (.inr (.inl rfl)) (.inl ⟨rfl, rfl⟩)
theorem kept_qcut {qa : Option Addr} {n c : Nat} {k0 : List Int} {x : Int} (h : Kept W R S T A room rv w K v u p (.slice qa n c) l ats k l2 (k0 ++ [x]) m) : Kept W R S T A room rv w K v u p (.slice qa k0.length c) l ats k l2 k0 m := by
  have h1 := h.qrow.cut (m := k0.length) (by simp)
  rw [List.map_append, List.take_append_of_le_length (by simp), List.take_of_length_le (by simp)] at h1
  refine h.qStep (Only.refl _ w) (.inl ?_) h1
  cases qa <;> rfl
theorem kept_cap {w : World} {b off n c : Nat} {l : List Int} (h : Row w 3 (.slice (some ⟨b, off, none⟩) n c) (l.map (.int .i64))) : (n : Int) ≤ c := by
  rcases h with ⟨h, _⟩ | ⟨b', cap, cur, h, _, hc, _⟩
  · cases h
  · simp only [Value.slice.injEq] at h
    omega
theorem kept_app_row {p : Value} {l2 : List Int} (h : Row w 3 p (l2.map (.int .i64))) (o : Obj) : Row (w.alloc o) 3 p (l2.map (.int .i64)) := h.only ((Only.refl [] w).alloc o) (by simp)
end

def TailOk (W : World) (R S T A room : Nat) (rv : Value) (n : Int) (j : Nat) (s8 s11 s12 s15 : Value) (wx : World) : Prop :=
  ∃ K v u l ats k m, Kept W R S T A room rv wx K v u s11 s12 l ats k l k m ∧ s8 = .int .i64 m ∧ s15 = .bool (hasB l n) ∧ K ≤ 3 * j ∧ l.length ≤ j ∧ k.length ≤ j ∧ 0 ≤ m ∧ m ≤ j

def RoundOk (W : World) (R S T A room : Nat) (rv p q : Value) (j : Nat) (m : Int) (w : World) : Prop :=
  ∃ K v u l ats k, Kept W R S T A room rv w K v u p q l ats k l k m ∧ K ≤ 3 * j ∧ l.length ≤ j ∧ k.length ≤ j ∧ 0 ≤ m ∧ m ≤ j

/-- what holds at the head of the loop. -/
def HeadOk (W : World) (R S T A room : Nat) (rv : Value) (s8 s11 s12 s13 : Value) (wr : World) : Prop :=
  ∃ (j : Nat) (m : Int), j ≤ 60 ∧ s8 = .int .i64 m ∧ s13 = .int .i64 j ∧ RoundOk W R S T A room rv s11 s12 j m wr

theorem headOk {W w1 : World} (hB : Below W.heap.size W w1) (rv : Value) (room : Nat) : HeadOk W w1.heap.size (w1.heap.size + 1 + 1) (w1.heap.size + 1 + 1 + 1) (w1.heap.size + 1) room rv (.int .i64 0) (.slice none 0 0) (.slice none 0 0) (.int .i64 0) (startW w1 rv room) :=
  ⟨0, 0, Nat.zero_le _, rfl, rfl, 0, _, _, _, _, _, kept_start W w1 hB rv room, Nat.zero_le _, Nat.zero_le _, Nat.zero_le _, Int.le_refl _, Int.le_refl _⟩

theorem kept_slice {w : World} {v : Value} {l : List Int} (h : Row w 3 v (l.map (.int .i64))) : ∃ a c, v = .slice a l.length c := by
  obtain ⟨a, c, hv⟩ := h.len
  rw [List.length_map] at hv
  exact ⟨a, c, hv⟩

theorem hasB_nil (n : Int) : hasB [] n = false := by simp [hasB]
theorem hasB_take {l : List Int} {k : Nat} (h : k < l.length) (n : Int) : hasB (l.take (k + 1)) n = (hasB (l.take k) n || (l[k] == n)) := by
  rw [List.take_succ_eq_append_getElem h]
  unfold hasB
  rw [Bool.eq_iff_iff]
  simp only [List.mem_append, List.mem_singleton, decide_eq_true_eq, Bool.or_eq_true, beq_iff_eq]
  exact or_congr_right eq_comm
theorem hasB_snoc (l : List Int) (n : Int) : hasB (l ++ [n]) n = true := by simp [hasB]

set_option maxRecDepth 100000 in
set_option maxHeartbeats 16000000 in
theorem kept_neg (a : Option Addr) (rn rc : Nat) (mm : Int) (w : World) (hb : Bytes w a rn) (hmm : -32768 ≤ mm ∧ mm ≤ 32767) (hneg : mm.tmod 40 < 0)
    (hawake : Calls Tryz.prog 7 #[] w fun en w1 => en = .returned (.bool true) ∧ Below w.heap.size w w1) :
    Calls Tryz.prog 4 #[.slice a rn rc, .int .i16 mm] w fun e w' => e = .returned (.bool true) ∧ Below w.heap.size w w' := by
  have ht1 := Int.tmod_lt_of_pos mm (b := 40) (by omega)
  have ht2 := Int.lt_tmod_of_pos mm (b := 40) (by omega)
  have HB := Lib.hid hb
  clear hb
  obtain ⟨info, hs, hsz, hby⟩ := ints_setup
  have HA := Lib.hid hs
  have HZ := Lib.hid hsz
  have HY := Lib.hid hby
  clear hs hsz hby
  generalize hxr : mm.tmod 40 = xr at *
  obtain ⟨room, hr0⟩ : ∃ room : Nat, (room : Int) ≤ 0 := ⟨0, by omega⟩
  have HX := Lib.hid hxr
  clear hxr
  go_enter Tryz.func4, Tryz.ntmps4
  go_wp2_with fail
  refine hawake.mono ?_
  rintro e w1 ⟨rfl, b1⟩
  clear hawake
  have hxr := HX.out
  go_wp2_with fail
  refine (new_any xr room _ (by omega) (by omega)).mono ?_
  rintro e w2 ⟨rfl, rfl⟩
  have HS := Lib.hid (headOk b1 (.slice a rn rc) room)
  clear hxr hneg ht1 ht2
  go_wp2_with fail
  go_loopw [8, 11, 12, 13] (fun s8 s11 s12 s13 wr => HeadOk w w1.heap.size (w1.heap.size + 1 + 1) (w1.heap.size + 1 + 1 + 1) (w1.heap.size + 1) room (.slice a rn rc) s8 s11 s12 s13 wr) (fun _ _ _ i _ => 60 - (intOf i).toNat)
  case atStart => exact HS.out
  case round =>
    obtain ⟨j, m, hj, rfl, rfl, K, v, u, l, ats, k, hk, hK, hl, hkl, hm0, hm1⟩ := hrel
    obtain ⟨pa, pc, rfl⟩ := kept_slice hk.prow
    obtain ⟨qa, qc, rfl⟩ := kept_slice hk.qrow
    have HK := Lib.hid hk
    clear hk
    by_cases h60 : (j : Int) < 60
    · obtain ⟨at', hat, r1⟩ := HK.out.raw.r1
      have r0 := HK.out.raw.r0
      by_cases hat2 : (at' : Int) < (rn : Int)
      · go_wp2_with fail
        clear r0 r1
        refine (kept_next HK.out HB.out 44 (by omega) (by omega)).mono ?_
        rintro e wa ⟨x, rfl, hx0, hx1, hk⟩
        have HK2 := Lib.hid hk
        clear hk HK
        go_wp2_with fail
        go_loop [15, 53] (fun s15 s53 => ∃ kk : Nat, kk ≤ l.length ∧ s53 = .int .i64 kk ∧ s15 = .bool (hasB (l.take kk) (x - 2))) (fun _ i => l.length - (intOf i).toNat)
        case atStart => exact ⟨0, Nat.zero_le _, rfl, by rw [List.take_zero, hasB_nil]⟩
        case round =>
          obtain ⟨kk, hkk, rfl, rfl⟩ := hrel
          by_cases hlt : (kk : Int) < (l.length : Int)
          · have hlt' : kk < l.length := by omega
            obtain ⟨b, off, rfl, hcell⟩ := (row_reads HK2.out.prow).2 kk _ (List.getElem?_eq_getElem hlt')
            have HT := Lib.hid (hasB_take hlt' (x - 2))
            generalize hasB (l.take kk) (x - 2) = hb at *
            cases hb
            all_goals
              go_wp2_with fail
              refine ⟨⟨kk + 1, by omega, by go_num, ?_⟩, by simp [intOf]; omega⟩
              rw [HT.out]
              simp
          · have hkl : kk = l.length := by omega
            subst hkl
            rw [List.take_length]
            go_wp2_with fail
            refine (kept_next HK2.out HB.out 8 (by omega) (by omega)).mono ?_
            rintro e wb ⟨y, rfl, hy0, hy1, hk⟩
            have HK3 := Lib.hid hk
            clear hk HK2
            have hn0 : -2 ≤ x - 2 := by omega
            have hn1 : x - 2 < 42 := by omega
            generalize x - 2 = n at *
            generalize hhb : hasB l n = hb at *
            have HE := Lib.hid hhb
            clear hhb
            go_upto_block 4 with fail
            go_cut [8, 11, 12, 15] (fun s8 s11 s12 s15 wx => TailOk w w1.heap.size (w1.heap.size + 1 + 1) (w1.heap.size + 1 + 1 + 1) (w1.heap.size + 1) room (.slice a rn rc) n (j + 1) s8 s11 s12 s15 wx)
            case first =>
              have hy8 : (y = 0 ∨ y = 1 ∨ y = 2) ∨ y = 3 ∨ (y = 4 ∨ y = 5) ∨ y = 6 ∨ y = 7 := by omega
              rcases hy8 with hy8 | rfl | hy8 | rfl | rfl
              · as_aux_lemma =>
                  rcases hy8 with rfl | rfl | rfl
                  all_goals
                  by_cases h0 : 0 ≤ n
                  · by_cases h1 : n < (room : Int)
                    · first
                      | (exfalso; omega)
                      | (cases hb
                         · go_wp2_with fail
                           refine (kept_add_yes HK3.out n h0 h1 HE.out (by omega)).mono ?_
                           rintro e wc ⟨rfl, v', ats', hk⟩
                           have HK4 := Lib.hid hk
                           clear hk HK3
                           go_wp2_with (at_builtin; refine wpList_row_append rfl _ _ rfl HA.out HZ.out rfl (.slice pa l.length pc) (l.map (.int .i64)) [.int .i64 n] ⟨wc.heap.size, 0, none⟩ 1 1 rfl rfl rfl (kept_app_row HK4.out.prow _) (cell_one_new _ _ _) (by simp [Value.oneCell']) (fits_small (by simp; omega) HY.out) (by rw [HY.out]; decide) ?_)
                           intro p' wd hrow hgr hblk
                           have HK5 := Lib.hid (kept_papp HK4.out hrow hgr (by simpa using hblk))
                           clear hrow hgr hblk HK4
                           go_wp2_with fail
                           go_meet
                           exact ⟨_, _, _, _, _, _, _, HK5.out, rfl, by rw [hasB_snoc], by omega, by simp; omega, by omega, by omega, by omega⟩
                         · go_wp2_with fail
                           refine (kept_add_no HK3.out.set n (.inr (.inr HE.out))).mono ?_
                           rintro e wc ⟨rfl, rfl⟩
                           go_wp2_with fail
                           go_meet
                           exact ⟨_, _, _, _, _, _, _, HK3.out, rfl, by rw [HE.out], by omega, by omega, by omega, by omega, by omega⟩)
                    · go_wp2_with fail
                      refine (kept_add_no HK3.out.set n (.inr (.inl (by omega)))).mono ?_
                      rintro e wc ⟨rfl, rfl⟩
                      go_wp2_with fail
                      go_meet
                      exact ⟨_, _, _, _, _, _, _, HK3.out, rfl, by rw [HE.out], by omega, by omega, by omega, by omega, by omega⟩
                  · go_wp2_with fail
                    refine (kept_add_no HK3.out.set n (.inl (by omega))).mono ?_
                    rintro e wc ⟨rfl, rfl⟩
                    go_wp2_with fail
                    go_meet
                    exact ⟨_, _, _, _, _, _, _, HK3.out, rfl, by rw [HE.out], by omega, by omega, by omega, by omega, by omega⟩
              · as_aux_lemma =>
                  go_wp2_with fail
                  refine (kept_next HK3.out HB.out 5 (by omega) (by omega)).mono ?_
                  rintro e wc ⟨z, rfl, hz0, hz1, hk⟩
                  have HK4 := Lib.hid hk
                  clear hk HK3
                  by_cases hz : z = 0
                  · subst hz
                    go_wp2_with fail
                    refine (kept_clear_set HK4.out).mono ?_
                    rintro e wd ⟨rfl, v', hk⟩
                    have HK5 := Lib.hid (kept_pnil hk)
                    clear hk HK4
                    go_wp2_with fail
                    go_meet
                    exact ⟨_, _, _, _, _, _, _, HK5.out, rfl, by rw [hasB_nil], by omega, by simp, by omega, by omega, by omega⟩
                  · have hz2 : 0 < z := by omega
                    clear hz
                    go_wp2_with fail
                    go_meet
                    exact ⟨_, _, _, _, _, _, _, HK4.out, rfl, by rw [HE.out], by omega, by omega, by omega, by omega, by omega⟩
              · as_aux_lemma =>
                  have hpush := kept_push HK3.out n (by omega) (by omega)
                  rcases hy8 with rfl | rfl
                  all_goals
                    go_wp2_with fail
                    refine hpush.mono ?_
                    rintro e wc ⟨rfl, u', hk⟩
                    have HK4 := Lib.hid hk
                    clear hk HK3 hpush
                    go_wp2_with (at_builtin; refine wpList_row_append rfl _ _ rfl HA.out HZ.out rfl (.slice qa k.length qc) (k.map (.int .i64)) [.int .i64 n] ⟨wc.heap.size, 0, none⟩ 1 1 rfl rfl rfl (kept_app_row HK4.out.qrow _) (cell_one_new _ _ _) (by simp [Value.oneCell']) (fits_small (by simp; omega) HY.out) (by rw [HY.out]; decide) ?_)
                    intro q' wd hrow hgr hblk
                    have HK5 := Lib.hid (kept_qapp HK4.out hrow hgr (by simpa using hblk))
                    clear hrow hgr hblk HK4
                    obtain ⟨qa', qc', rfl⟩ := kept_slice HK5.out.qrow
                    rw [List.length_append, List.length_singleton] at *
                    by_cases hm : m < (k.length : Int) + 1
                    · go_wp2_with fail
                      go_meet
                      refine ⟨_, _, _, _, _, _, _, HK5.out, ?_, by rw [HE.out], by omega, by omega, by simp; omega, ?_, ?_⟩
                      · rw [if_pos (by omega)]
                      · rw [if_pos (by omega)]; omega
                      · rw [if_pos (by omega)]; omega
                    · go_wp2_with fail
                      go_meet
                      refine ⟨_, _, _, _, _, _, _, HK5.out, ?_, by rw [HE.out], by omega, by omega, by simp; omega, ?_, ?_⟩
                      · rw [if_neg (by omega)]
                      · rw [if_neg (by omega)]; omega
                      · rw [if_neg (by omega)]; omega
              · as_aux_lemma =>
                  rcases List.eq_nil_or_concat k with rfl | ⟨k0, x0, rfl⟩
                  · go_wp2_with fail
                    refine (kept_pop_none HK3.out).mono ?_
                    rintro e wc ⟨rfl, rfl⟩
                    go_wp2_with fail
                    go_meet
                    exact ⟨_, _, _, _, _, _, _, HK3.out, rfl, by rw [HE.out], by omega, by omega, by omega, by omega, by omega⟩
                  · rw [List.concat_eq_append] at HK3 hkl
                    rw [List.length_concat]
                    rw [List.length_append, List.length_singleton] at hkl
                    rw [List.length_append, List.length_singleton] at HK3
                    go_wp2_with fail
                    refine (kept_pop_some HK3.out (by omega)).mono ?_
                    rintro e wc ⟨rfl, u', hk⟩
                    have HK4 := Lib.hid hk
                    clear hk HK3
                    obtain ⟨b, off, rfl, hcell⟩ := (row_reads HK4.out.qrow).2 k0.length x0 (by simp)
                    have hcap := kept_cap HK4.out.qrow
                    go_wp2_with fail
                    go_meet
                    exact ⟨_, _, _, _, _, _, _, kept_qcut HK4.out, rfl, by rw [HE.out], by omega, by omega, by omega, by omega, by omega⟩
              · as_aux_lemma =>
                  go_wp2_with fail
                  refine (kept_next HK3.out HB.out 5 (by omega) (by omega)).mono ?_
                  rintro e wc ⟨z, rfl, hz0, hz1, hk⟩
                  have HK4 := Lib.hid hk
                  clear hk HK3
                  by_cases hz : z = 0
                  · subst hz
                    go_wp2_with fail
                    refine (kept_clear_stack HK4.out).mono ?_
                    rintro e wd ⟨rfl, u', hk⟩
                    have HK5 := Lib.hid (kept_qnil hk)
                    clear hk HK4
                    go_wp2_with fail
                    go_meet
                    exact ⟨_, _, _, _, _, _, _, HK5.out, rfl, by rw [HE.out], by omega, by omega, by simp, by omega, by omega⟩
                  · have hz2 : 0 < z := by omega
                    clear hz
                    go_wp2_with fail
                    go_meet
                    exact ⟨_, _, _, _, _, _, _, HK4.out, rfl, by rw [HE.out], by omega, by omega, by omega, by omega, by omega⟩
            case rest =>
              as_aux_lemma =>
                clear HK3 HE
                obtain ⟨K', v', u', l', ats', k', m', hk, rfl, rfl, hK', hl', hk', hm0', hm1'⟩ := hcut
                obtain ⟨pa', pc', rfl⟩ := kept_slice hk.prow
                obtain ⟨qa', qc', rfl⟩ := kept_slice hk.qrow
                have HK4 := Lib.hid hk
                clear hk
                go_wp2_with fail
                refine (kept_has HK4.out.set n).mono ?_
                rintro e wd ⟨rfl, rfl⟩
                generalize hasB l' n = h2
                go_wp2_with fail
                refine (kept_len HK4.out).mono ?_
                rintro e wd ⟨rfl, rfl⟩
                go_wp2_with fail
                refine (kept_list HK4.out (by omega)).mono ?_
                rintro e wd ⟨a1, c1, rfl, hrow, hk⟩
                have HK5 := Lib.hid hk
                have HR := Lib.hid hrow
                clear hk hrow HK4
                go_wp2_with fail
                refine (kept_ints HK5.out (by omega) HR.out).mono ?_
                rintro e we ⟨rfl, hk⟩
                have HK6 := Lib.hid hk
                clear hk HK5 HR
                go_wp2_with fail
                refine (kept_depth HK6.out).mono ?_
                rintro e wf ⟨rfl, rfl⟩
                go_wp2_with fail
                refine (kept_most HK6.out).mono ?_
                rintro e wf ⟨rfl, rfl⟩
                go_wp2_with fail
                exact ⟨⟨j + 1, m', by omega, rfl, by go_num, K', v', u', l', ats', k', HK6.out, hK', hl', hk', hm0', hm1'⟩, by simp [intOf]; omega⟩
      · have hb1 := HK.out.bel
        go_wp2_with fail
        go_ret
        exact ⟨rfl, hb1⟩
    · have hb1 := HK.out.bel
      go_wp2_with fail
      go_ret
      exact ⟨rfl, hb1⟩
end Go.Proofs.YtmbgnmnaonjdgaaGreatDoor
