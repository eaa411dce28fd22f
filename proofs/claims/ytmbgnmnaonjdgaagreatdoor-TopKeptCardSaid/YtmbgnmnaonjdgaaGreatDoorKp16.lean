/- PART OF A PROOF over the given program: Kp16. See the last text of the claim for the statement. -/
import Derived.Test.YtmbgnmnaonjdgaaGreatDoorKp15
namespace Go.Proofs.YtmbgnmnaonjdgaaGreatDoor
open Go Go.RowKit Go.Own

set_option maxRecDepth 100000 in
set_option maxHeartbeats 16000000 in
theorem kept_pos (a : Option Addr) (rn rc : Nat) (mm : Int) (w : World) (hb : Bytes w a rn) (hmm : -32768 ≤ mm ∧ mm ≤ 32767) (hpos : 0 ≤ mm.tmod 40)
    (hawake : Calls Tryz.prog 7 #[] w fun en w1 => en = .returned (.bool true) ∧ Below w.heap.size w w1) :
    Calls Tryz.prog 4 #[.slice a rn rc, .int .i16 mm] w fun e w' => e = .returned (.bool true) ∧ Below w.heap.size w w' := by
  have ht1 := Int.tmod_lt_of_pos mm (b := 40) (by omega)
  have ht2 := Int.lt_tmod_of_pos mm (b := 40) (by omega)
  have HB := Lib.hid hb
  clear hb
  obtain ⟨info, hs, hsz, hby⟩ := ints_setup
  have HA := Lib.hid hs
  have HZ := Lib.hid hsz
  have HY := Lib.hid hby
  clear hs hsz hby
  obtain ⟨room, hxr⟩ : ∃ room : Nat, mm.tmod 40 = (room : Int) := ⟨(mm.tmod 40).toNat, by omega⟩
  have hr0 : (room : Int) < 40 := by omega
  have HX := Lib.hid hxr
  clear hxr hpos ht1 ht2
  go_enter Tryz.func4, Tryz.ntmps4
  go_wp2_with fail
  refine hawake.mono ?_
  rintro e w1 ⟨rfl, b1⟩
  clear hawake
  have hxr := HX.out
  go_wp2_with fail
  refine (new_any room room _ (by omega) (by omega)).mono ?_
  rintro e w2 ⟨rfl, rfl⟩
  have HS := Lib.hid (headOk b1 (.slice a rn rc) room)
  clear hxr
  go_wp2_with fail
  go_loopw [8, 11, 12, 13] (fun s8 s11 s12 s13 wr => HeadOk w w1.heap.size (w1.heap.size + 1 + 1) (w1.heap.size + 1 + 1 + 1) (w1.heap.size + 1) room (.slice a rn rc) s8 s11 s12 s13 wr) (fun _ _ _ i _ => 60 - (intOf i).toNat)
  case atStart => exact HS.out
  case round =>
    obtain ⟨j, m, hj, rfl, rfl, K, v, u, l, ats, k, hk, hK, hl, hkl, hm0, hm1⟩ := hrel
    obtain ⟨pa, pc, rfl⟩ := kept_slice hk.prow
    obtain ⟨qa, qc, rfl⟩ := kept_slice hk.qrow
    have HK := Lib.hid hk
    clear hk
    by_cases h60 : (j : Int) < 60
    · obtain ⟨at', hat, r1⟩ := HK.out.raw.r1
      have r0 := HK.out.raw.r0
      by_cases hat2 : (at' : Int) < (rn : Int)
      · go_wp2_with fail
        clear r0 r1
        refine (kept_next HK.out HB.out 44 (by omega) (by omega)).mono ?_
        rintro e wa ⟨x, rfl, hx0, hx1, hk⟩
        have HK2 := Lib.hid hk
        clear hk HK
        go_wp2_with fail
        go_loop [15, 53] (fun s15 s53 => ∃ kk : Nat, kk ≤ l.length ∧ s53 = .int .i64 kk ∧ s15 = .bool (hasB (l.take kk) (x - 2))) (fun _ i => l.length - (intOf i).toNat)
        case atStart => exact ⟨0, Nat.zero_le _, rfl, by rw [List.take_zero, hasB_nil]⟩
        case round =>
          obtain ⟨kk, hkk, rfl, rfl⟩ := hrel
          by_cases hlt : (kk : Int) < (l.length : Int)
          · have hlt' : kk < l.length := by omega
            obtain ⟨b, off, rfl, hcell⟩ := (row_reads HK2.out.prow).2 kk _ (List.getElem?_eq_getElem hlt')
            have HT := Lib.hid (hasB_take hlt' (x - 2))
            generalize hasB (l.take kk) (x - 2) = hb at *
            cases hb
            all_goals
              go_wp2_with fail
              refine ⟨⟨kk + 1, by omega, by go_num, ?_⟩, by simp [intOf]; omega⟩
              rw [HT.out]
              simp
          · have hkl : kk = l.length := by omega
            subst hkl
            rw [List.take_length]
            go_wp2_with fail
            refine (kept_next HK2.out HB.out 8 (by omega) (by omega)).mono ?_
            rintro e wb ⟨y, rfl, hy0, hy1, hk⟩
            have HK3 := Lib.hid hk
            clear hk HK2
            have hn0 : -2 ≤ x - 2 := by omega
            have hn1 : x - 2 < 42 := by omega
            generalize x - 2 = n at *
            generalize hhb : hasB l n = hb at *
            have HE := Lib.hid hhb
            clear hhb
            go_upto_block 4 with fail
            go_cut [8, 11, 12, 15] (fun s8 s11 s12 s15 wx => TailOk w w1.heap.size (w1.heap.size + 1 + 1) (w1.heap.size + 1 + 1 + 1) (w1.heap.size + 1) room (.slice a rn rc) n (j + 1) s8 s11 s12 s15 wx)
            case first =>
              have hy8 : (y = 0 ∨ y = 1 ∨ y = 2) ∨ y = 3 ∨ (y = 4 ∨ y = 5) ∨ y = 6 ∨ y = 7 := by omega
              rcases hy8 with hy8 | rfl | hy8 | rfl | rfl
              · as_aux_lemma =>
                  rcases hy8 with rfl | rfl | rfl
                  all_goals
                  by_cases h0 : 0 ≤ n
                  · by_cases h1 : n < (room : Int)
                    · first
                      | (exfalso; omega)
                      | (cases hb
                         · go_wp2_with fail
                           refine (kept_add_yes HK3.out n h0 h1 HE.out (by omega)).mono ?_
                           rintro e wc ⟨rfl, v', ats', hk⟩
                           have HK4 := Lib.hid hk
                           clear hk HK3
                           go_wp2_with (at_builtin; refine wpList_row_append rfl _ _ rfl HA.out HZ.out rfl (.slice pa l.length pc) (l.map (.int .i64)) [.int .i64 n] ⟨wc.heap.size, 0, none⟩ 1 1 rfl rfl rfl (kept_app_row HK4.out.prow _) (cell_one_new _ _ _) (by simp [Value.oneCell']) (fits_small (by simp; omega) HY.out) (by rw [HY.out]; decide) ?_)
                           intro p' wd hrow hgr hblk
                           have HK5 := Lib.hid (kept_papp HK4.out hrow hgr (by simpa using hblk))
                           clear hrow hgr hblk HK4
                           go_wp2_with fail
                           go_meet
                           exact ⟨_, _, _, _, _, _, _, HK5.out, rfl, by rw [hasB_snoc], by omega, by simp; omega, by omega, by omega, by omega⟩
                         · go_wp2_with fail
                           refine (kept_add_no HK3.out.set n (.inr (.inr HE.out))).mono ?_
                           rintro e wc ⟨rfl, rfl⟩
                           go_wp2_with fail
                           go_meet
                           exact ⟨_, _, _, _, _, _, _, HK3.out, rfl, by rw [HE.out], by omega, by omega, by omega, by omega, by omega⟩)
                    · go_wp2_with fail
                      refine (kept_add_no HK3.out.set n (.inr (.inl (by omega)))).mono ?_
                      rintro e wc ⟨rfl, rfl⟩
                      go_wp2_with fail
                      go_meet
                      exact ⟨_, _, _, _, _, _, _, HK3.out, rfl, by rw [HE.out], by omega, by omega, by omega, by omega, by omega⟩
                  · go_wp2_with fail
                    refine (kept_add_no HK3.out.set n (.inl (by omega))).mono ?_
                    rintro e wc ⟨rfl, rfl⟩
                    go_wp2_with fail
                    go_meet
                    exact ⟨_, _, _, _, _, _, _, HK3.out, rfl, by rw [HE.out], by omega, by omega, by omega, by omega, by omega⟩
              · as_aux_lemma =>
                  go_wp2_with fail
                  refine (kept_next HK3.out HB.out 5 (by omega) (by omega)).mono ?_
                  rintro e wc ⟨z, rfl, hz0, hz1, hk⟩
                  have HK4 := Lib.hid hk
                  clear hk HK3
                  by_cases hz : z = 0
                  · subst hz
                    go_wp2_with fail
                    refine (kept_clear_set HK4.out).mono ?_
                    rintro e wd ⟨rfl, v', hk⟩
                    have HK5 := Lib.hid (kept_pnil hk)
                    clear hk HK4
                    go_wp2_with fail
                    go_meet
                    exact ⟨_, _, _, _, _, _, _, HK5.out, rfl, by rw [hasB_nil], by omega, by simp, by omega, by omega, by omega⟩
                  · have hz2 : 0 < z := by omega
                    clear hz
                    go_wp2_with fail
                    go_meet
                    exact ⟨_, _, _, _, _, _, _, HK4.out, rfl, by rw [HE.out], by omega, by omega, by omega, by omega, by omega⟩
              · as_aux_lemma =>
                  have hpush := kept_push HK3.out n (by omega) (by omega)
                  rcases hy8 with rfl | rfl
                  all_goals
                    go_wp2_with fail
                    refine hpush.mono ?_
                    rintro e wc ⟨rfl, u', hk⟩
                    have HK4 := Lib.hid hk
                    clear hk HK3 hpush
                    go_wp2_with (at_builtin; refine wpList_row_append rfl _ _ rfl HA.out HZ.out rfl (.slice qa k.length qc) (k.map (.int .i64)) [.int .i64 n] ⟨wc.heap.size, 0, none⟩ 1 1 rfl rfl rfl (kept_app_row HK4.out.qrow _) (cell_one_new _ _ _) (by simp [Value.oneCell']) (fits_small (by simp; omega) HY.out) (by rw [HY.out]; decide) ?_)
                    intro q' wd hrow hgr hblk
                    have HK5 := Lib.hid (kept_qapp HK4.out hrow hgr (by simpa using hblk))
                    clear hrow hgr hblk HK4
                    obtain ⟨qa', qc', rfl⟩ := kept_slice HK5.out.qrow
                    rw [List.length_append, List.length_singleton] at *
                    by_cases hm : m < (k.length : Int) + 1
                    · go_wp2_with fail
                      go_meet
                      refine ⟨_, _, _, _, _, _, _, HK5.out, ?_, by rw [HE.out], by omega, by omega, by simp; omega, ?_, ?_⟩
                      · rw [if_pos (by omega)]
                      · rw [if_pos (by omega)]; omega
                      · rw [if_pos (by omega)]; omega
                    · go_wp2_with fail
                      go_meet
                      refine ⟨_, _, _, _, _, _, _, HK5.out, ?_, by rw [HE.out], by omega, by omega, by simp; omega, ?_, ?_⟩
                      · rw [if_neg (by omega)]
                      · rw [if_neg (by omega)]; omega
                      · rw [if_neg (by omega)]; omega
              · as_aux_lemma =>
                  rcases List.eq_nil_or_concat k with rfl | ⟨k0, x0, rfl⟩
                  · go_wp2_with fail
                    refine (kept_pop_none HK3.out).mono ?_
                    rintro e wc ⟨rfl, rfl⟩
                    go_wp2_with fail
                    go_meet
                    exact ⟨_, _, _, _, _, _, _, HK3.out, rfl, by rw [HE.out], by omega, by omega, by omega, by omega, by omega⟩
                  · rw [List.concat_eq_append] at HK3 hkl
                    rw [List.length_concat]
                    rw [List.length_append, List.length_singleton] at hkl
                    rw [List.length_append, List.length_singleton] at HK3
                    go_wp2_with fail
                    refine (kept_pop_some HK3.out (by omega)).mono ?_
                    rintro e wc ⟨rfl, u', hk⟩
                    have HK4 := Lib.hid hk
                    clear hk HK3
                    obtain ⟨b, off, rfl, hcell⟩ := (row_reads HK4.out.qrow).2 k0.length x0 (by simp)
                    have hcap := kept_cap HK4.out.qrow
                    go_wp2_with fail
                    go_meet
                    exact ⟨_, _, _, _, _, _, _, kept_qcut HK4.out, rfl, by rw [HE.out], by omega, by omega, by omega, by omega, by omega⟩
              · as_aux_lemma =>
                  go_wp2_with fail
                  refine (kept_next HK3.out HB.out 5 (by omega) (by omega)).mono ?_
                  rintro e wc ⟨z, rfl, hz0, hz1, hk⟩
                  have HK4 := Lib.hid hk
                  clear hk HK3
                  by_cases hz : z = 0
                  · subst hz
                    go_wp2_with fail
                    refine (kept_clear_stack HK4.out).mono ?_
                    rintro e wd ⟨rfl, u', hk⟩
                    have HK5 := Lib.hid (kept_qnil hk)
                    clear hk HK4
                    go_wp2_with fail
                    go_meet
                    exact ⟨_, _, _, _, _, _, _, HK5.out, rfl, by rw [HE.out], by omega, by omega, by simp, by omega, by omega⟩
                  · have hz2 : 0 < z := by omega
                    clear hz
                    go_wp2_with fail
                    go_meet
                    exact ⟨_, _, _, _, _, _, _, HK4.out, rfl, by rw [HE.out], by omega, by omega, by omega, by omega, by omega⟩
            case rest =>
              as_aux_lemma =>
                clear HK3 HE
                obtain ⟨K', v', u', l', ats', k', m', hk, rfl, rfl, hK', hl', hk', hm0', hm1'⟩ := hcut
                obtain ⟨pa', pc', rfl⟩ := kept_slice hk.prow
                obtain ⟨qa', qc', rfl⟩ := kept_slice hk.qrow
                have HK4 := Lib.hid hk
                clear hk
                go_wp2_with fail
                refine (kept_has HK4.out.set n).mono ?_
                rintro e wd ⟨rfl, rfl⟩
                generalize hasB l' n = h2
                go_wp2_with fail
                refine (kept_len HK4.out).mono ?_
                rintro e wd ⟨rfl, rfl⟩
                go_wp2_with fail
                refine (kept_list HK4.out (by omega)).mono ?_
                rintro e wd ⟨a1, c1, rfl, hrow, hk⟩
                have HK5 := Lib.hid hk
                have HR := Lib.hid hrow
                clear hk hrow HK4
                go_wp2_with fail
                refine (kept_ints HK5.out (by omega) HR.out).mono ?_
                rintro e we ⟨rfl, hk⟩
                have HK6 := Lib.hid hk
                clear hk HK5 HR
                go_wp2_with fail
                refine (kept_depth HK6.out).mono ?_
                rintro e wf ⟨rfl, rfl⟩
                go_wp2_with fail
                refine (kept_most HK6.out).mono ?_
                rintro e wf ⟨rfl, rfl⟩
                go_wp2_with fail
                exact ⟨⟨j + 1, m', by omega, rfl, by go_num, K', v', u', l', ats', k', HK6.out, hK', hl', hk', hm0', hm1'⟩, by simp [intOf]; omega⟩
      · have hb1 := HK.out.bel
        go_wp2_with fail
        go_ret
        exact ⟨rfl, hb1⟩
    · have hb1 := HK.out.bel
      go_wp2_with fail
      go_ret
      exact ⟨rfl, hb1⟩
end Go.Proofs.YtmbgnmnaonjdgaaGreatDoor
