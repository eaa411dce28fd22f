/- PART OF A PROOF over the given program: Rn5. See the last text of the claim for the statement. -/
import Derived.Test.YtmbgnmnaonjdgaaGreatDoorRn4
import Derived.Deep.RegionHeld3
import Derived.Laws.Strings
namespace Go.Runes
theorem cand_short (m : Nat) (b : List Int) (h : b.length < m) : cand m b = none := by
  match m, b, h with
  | 1, [], _ => rfl
  | 2, [], _ => rfl
  | 2, [_], _ => rfl
  | 3, [], _ => rfl
  | 3, [_], _ => rfl
  | 3, [_, _], _ => rfl
  | 4, [], _ => rfl
  | 4, [_], _ => rfl
  | 4, [_, _], _ => rfl
  | 4, [_, _, _], _ => rfl
  | n + 5, _, _ => rfl
  | 1, _ :: _, h => simp at h
  | 2, _ :: _ :: _, h => simp at h; omega
  | 3, _ :: _ :: _ :: _, h => simp at h; omega
  | 4, _ :: _ :: _ :: _ :: _, h => simp at h; omega
theorem pick_hit {b : List Int} {k : Nat} {x : Int} (h : cand (k + 1) b = some x) : pick b (k + 1) = (x, k + 1) := by simp [pick, h]
theorem pick_miss {b : List Int} {k : Nat} (h : cand (k + 1) b = none) : pick b (k + 1) = pick b k := by simp [pick, h]
theorem pick_short {b : List Int} {k : Nat} (h : b.length ≤ k) (hk : k ≤ 4) : pick b 4 = pick b k := by
  have h4 : k = 0 ∨ k = 1 ∨ k = 2 ∨ k = 3 ∨ k = 4 := by omega
  rcases h4 with rfl | rfl | rfl | rfl | rfl
  · rw [pick_miss (cand_short 4 b (by omega)), pick_miss (cand_short 3 b (by omega)), pick_miss (cand_short 2 b (by omega)), pick_miss (cand_short 1 b (by omega))]
  · rw [pick_miss (cand_short 4 b (by omega)), pick_miss (cand_short 3 b (by omega)), pick_miss (cand_short 2 b (by omega))]
  · rw [pick_miss (cand_short 4 b (by omega)), pick_miss (cand_short 3 b (by omega))]
  · rw [pick_miss (cand_short 4 b (by omega))]
  · rfl
theorem enc_byte {x : Int} (h : dom x = true) : ∀ y ∈ enc x, byte y := by
  rw [dom_iff] at h
  intro y hy
  unfold byte
  by_cases h1 : x < 128
  · rw [enc_one h1] at hy; simp at hy; omega
  · by_cases h2 : x < 2048
    · rw [enc_two h1 h2] at hy; simp at hy; omega
    · by_cases h3 : x < 65536
      · rw [enc_three h2 h3] at hy; simp at hy; omega
      · rw [enc_four h3] at hy; simp at hy; omega
end Go.Runes
namespace Go.Proofs.YtmbgnmnaonjdgaaGreatDoor
open Go Go.RowKit Go.Own Go.Runes

theorem below_on {wa w1 w2 : World} (h : Below wa.heap.size wa w1) (g : Below w1.heap.size w1 w2) : Below wa.heap.size wa w2 := h.trans (g.mono h.size)

theorem num_inj {a b : Int} (ha : byte a) (hb : byte b) (h : UInt8.ofNat a.toNat = UInt8.ofNat b.toNat) : a = b := by
  unfold byte at ha hb
  have := congrArg UInt8.toNat h
  simp only [UInt8.toNat_ofNat'] at this
  omega
theorem nums_inj : ∀ {l m : List Int}, (∀ x ∈ l, byte x) → (∀ x ∈ m, byte x) → l.map (fun n => UInt8.ofNat n.toNat) = m.map (fun n => UInt8.ofNat n.toNat) → l = m
  | [], [], _, _, _ => rfl
  | [], _ :: _, _, _, h => by simp at h
  | _ :: _, [], _, _, h => by simp at h
  | x :: l, y :: m, hl, hm, h => by
    simp only [List.map_cons, List.cons.injEq] at h
    rw [num_inj (hl x (by simp)) (hm y (by simp)) h.1, nums_inj (fun z hz => hl z (by simp [hz])) (fun z hz => hm z (by simp [hz])) h.2]

theorem byte_at {S : ByteArray} {s : List Int} (hS : S = strOfNums s) (hby : ∀ x ∈ s, byte x) (i : Nat) (h : i < S.size) (h2 : i < s.length) : (((S[i]'h).toNat : Nat) : Int) = s[i] := by
  subst hS
  have hb := hby _ (List.getElem_mem h2)
  unfold byte at hb
  have : (strOfNums s)[i]'h = UInt8.ofNat (s[i]).toNat := by
    simp only [strOfNums, ByteArray.getElem_eq_getElem_data, List.getElem_toArray, List.getElem_map]
  rw [this, UInt8.toNat_ofNat']
  omega

theorem toList_data (S : ByteArray) : S.toList = S.data.toList := by
  unfold ByteArray.toList
  rw [ByteArray.toList_loop_eq S S.size 0 [] (by omega) (by omega)]
  simp

theorem str_cmp {S : ByteArray} {s l : List Int} (hS : S = strOfNums s) (hby : ∀ x ∈ s, byte x) (hl : ∀ x ∈ l, byte x) (p m : Nat) : ((strOfNums l).toList == (S.extract p (p + m)).toList) = (l == (s.drop p).take m) := by
  subst hS
  rw [Bool.eq_iff_iff, beq_iff_eq, beq_iff_eq, toList_data, toList_data]
  have e : ((strOfNums s).extract p (p + m)).data.toList = ((s.drop p).take m).map fun n => UInt8.ofNat n.toNat := by
    rw [ByteArray.data_extract, Array.toList_extract, List.extract_eq_take_drop, strOfNums_data, ← List.map_drop, ← List.map_take]
    rw [show p + m - p = m by omega]
  rw [e, strOfNums_data]
  exact ⟨fun h => nums_inj hl (fun x hx => hby x (List.mem_of_mem_drop (List.mem_of_mem_take hx))) h, fun h => by rw [h]⟩

def PickHead (W : World) (b : List Int) (s7 s8 s9 : Value) (w : World) : Prop :=
  ∃ k : Nat, k ≤ 4 ∧ k ≤ b.length ∧ s9 = .int .i64 ((k + 1 : Nat) : Int) ∧ s7 = .int .i64 (pick b k).1 ∧ s8 = .int .i64 (pick b k).2 ∧ Below W.heap.size W w
theorem pick_hit' {W w : World} {b : List Int} {k : Nat} {x : Int} (h : cand (k + 1) b = some x) (hk : k < 4) (hl : k < b.length) (hB : Below W.heap.size W w) (m m1 : Int) (hm : m = ((k + 1 : Nat) : Int)) (hm1 : m1 = ((k + 1 + 1 : Nat) : Int)) : PickHead W b (.int .i64 x) (.int .i64 m) (.int .i64 m1) w :=
  ⟨k + 1, hk, hl, by rw [hm1], by rw [pick_hit h], by rw [pick_hit h, hm], hB⟩
theorem pick_miss' {W w : World} {b : List Int} {k : Nat} (h : cand (k + 1) b = none) (hk : k < 4) (hl : k < b.length) (hB : Below W.heap.size W w) (m1 : Int) (hm1 : m1 = ((k + 1 + 1 : Nat) : Int)) : PickHead W b (.int .i64 (pick b k).1) (.int .i64 (pick b k).2) (.int .i64 m1) w :=
  ⟨k + 1, hk, hl, by rw [hm1], by rw [pick_miss h], by rw [pick_miss h], hB⟩

set_option maxRecDepth 100000 in
set_option maxHeartbeats 4000000 in
theorem reedCut_any (S : ByteArray) (s : List Int) (w : World) (hS : S = strOfNums s) (hby : ∀ x ∈ s, byte x) (h80 : s.length ≤ 1000) :
    Calls Tryz.prog 26 #[.string S] w fun e w' => ∃ v1 v2, e = .returned (.tuple #[v1, v2]) ∧ CutIs w s v1 v2 w' := by
  obtain ⟨info, hs', hsz, hby'⟩ := ints_setup
  have HA := Lib.hid hs'
  have HZ := Lib.hid hsz
  have HY := Lib.hid hby'
  have HB := Lib.hid hby
  have hlen : S.size = s.length := by rw [hS]; exact strOfNums_size s
  have HS := Lib.hid hS
  have HN := Lib.hid hlen
  have h80' : S.size ≤ 1000 := by omega
  clear hs' hsz hby' hby hS hlen
  go_enter Tryz.func26, Tryz.ntmps26
  go_wp2_with fail
  go_loopw [4, 5, 6] (fun v1 v2 v3 wr => ∃ j, (∀ i, i < j → (cutSt s i).1 < s.length) ∧ v3 = .int .i64 ((cutSt s j).1 : Nat) ∧ Held w wr [(v1, 3, ints (cutSt s j).2.1), (v2, 3, ints (cutSt s j).2.2)]) (fun _ _ i _ => s.length - (intOf i).toNat)
  case atStart => exact ⟨0, fun i hi => by omega, rfl, ((Held.start (Below.refl _ w)).addNil 3).addNil 3⟩
  case round =>
    obtain ⟨j, hno, rfl, hh⟩ := hrel
    have hle := cutSt_le s j
    by_cases hlt : (cutSt s j).1 < s.length
    · have hge := cutSt_ge s j hlt
      have hw := dec_width (s.drop (cutSt s j).1) (by
        intro hn
        have := congrArg List.length hn
        simp at this
        omega)
      have hl1 : (ints (cutSt s j).2.1).length = j := by rw [ints, List.length_map]; exact (cutSt_len s j).1
      have hl2 : (ints (cutSt s j).2.2).length = j := by rw [ints, List.length_map]; exact (cutSt_len s j).2
      have hst1 : cutSt s (j + 1) = ((cutSt s j).1 + (dec (s.drop (cutSt s j).1)).2, (cutSt s j).2.1 ++ [(dec (s.drop (cutSt s j).1)).1], (cutSt s j).2.2 ++ [((cutSt s j).1 : Int)]) := rfl
      rw [List.length_drop] at hw
      generalize hp : (cutSt s j).1 = p at *
      generalize (cutSt s j).2.1 = l1 at *
      generalize (cutSt s j).2.2 = l2 at *
      obtain ⟨a1, c1, hv1⟩ := row_slice (hh.row (i := 0) rfl)
      obtain ⟨a2, c2, hv2⟩ := row_slice (hh.row (i := 1) rfl)
      rw [hl1] at hv1
      rw [hl2] at hv2
      subst hv1
      subst hv2
      have HP := Lib.hid hp
      have HNO := Lib.hid hno
      have HH := Lib.hid hh
      have HST := Lib.hid hst1
      have HL1 := Lib.hid hl1
      have HL2 := Lib.hid hl2
      have HW := Lib.hid hw
      clear hp hno hh hst1 hl1 hl2 hw
      have hlt' : (p : Int) < (S.size : Int) := by have := HN.out; omega
      have hdl : (s.drop p).length = s.length - p := List.length_drop
      have HDL := Lib.hid hdl
      have hpd : pick (s.drop p) 4 = dec (s.drop p) := pick_dec _ (fun x hx => HB.out x (List.mem_of_mem_drop hx)) (by
        intro hn
        rw [hn] at hdl
        simp at hdl
        omega)
      have HPD := Lib.hid hpd
      clear hdl hpd
      rename World => wa
      go_upto_block 2 with fail
      go_cut [7, 8] (fun s7 s8 wx => s7 = .int .i64 (dec (s.drop p)).1 ∧ s8 = .int .i64 (dec (s.drop p)).2 ∧ Below wa.heap.size wa wx)
      case first =>
        go_wp2_with fail
        go_loopw [7, 8, 9] (fun s7 s8 s9 wx => PickHead wa (s.drop p) s7 s8 s9 wx) (fun _ _ i _ => 5 - (intOf i).toNat)
        case atStart => exact ⟨0, by omega, by omega, rfl, rfl, rfl, Below.refl _ _⟩
        case round =>
          obtain ⟨k, hk4, hkl, rfl, rfl, rfl, hB⟩ := hrel
          have hkl2 : p + k ≤ s.length := by have := HDL.out; omega
          have HB2 := Lib.hid hB
          have HKL := Lib.hid hkl
          clear hB hkl
          have hk5 : k = 0 ∨ k = 1 ∨ k = 2 ∨ k = 3 ∨ k = 4 := by omega
          rcases hk5 with rfl | rfl | rfl | rfl | rfl
          · have e0 : ((0 + 1 : Nat) : Int) = 1 := rfl
            rw [e0]
            clear e0
            have hm : (p : Int) + 1 ≤ (S.size : Int) := by omega
            have i0 : p < S.size := by omega
            obtain ⟨f, hf⟩ : ∃ x : Int, ((S[p]'i0).toNat : Int) = x := ⟨_, rfl⟩
            have hfs : f = s[p]'(by have := HN.out; omega) := by rw [← hf]; exact byte_at HS.out HB.out _ _ _
            have hfb : byte f := by rw [hfs]; exact HB.out _ (List.getElem_mem _)
            obtain ⟨hf0, hf1⟩ := hfb
            have Ef := Lib.hid hfs
            clear hfs
            have hbs : s.drop p = f :: s.drop (p + 1) := by
              rw [Ef.out]
              rw [List.drop_eq_getElem_cons hlt]
            have HBS := Lib.hid hbs
            clear hbs
            have hsk : 127 < f → cand 1 (s.drop p) = none := fun h => by rw [HBS.out]; exact if_pos h
            have hcd : ¬ (127 < f) → cand 1 (s.drop p) = if dom (f) && enc (f) == [f] then some (f) else none := fun h => by rw [HBS.out]; exact if_neg h
            have HSK := Lib.hid hsk
            have HCD := Lib.hid hcd
            clear hsk hcd
            by_cases hs1 : 127 < f
            · as_aux_lemma =>
                go_wp2_with fail
                exact ⟨pick_miss' (HSK.out hs1) (by omega) (by have := HDL.out; have := HN.out; omega) HB2.out _ (by rfl), by simp [intOf]⟩
            · obtain ⟨x, hx⟩ : ∃ x, f = x := ⟨_, rfl⟩
              subst hx
              have HCN := Lib.hid (HCD.out hs1)
              clear HCD HSK
              go_wp2_with fail
              refine wp_loop_rounds 1 ?_
              rw [rounds_succ]
              go_wp2_with fail
              have q1 : IntKind.i64.wrap ((p : Int) + 1) = (p : Int) + 1 := IntWalk.i64_in _ (by omega)
              have q2 : (0 : Int) ≤ (p : Int) + 1 := by omega
              have q3 : ((p : Int) + 1).toNat = p + 1 := by omega
              have q4 : (p : Int) ≤ (p : Int) + 1 := by omega
              have q5 : (0 : Int) ≤ (p : Int) := by omega
              have q6 : ((p : Int)).toNat = p := rfl
              have HD := fun w => reedDomain_any f w
              by_cases hd : dom f = true
              · as_aux_lemma =>
                  have HE := fun w => reedEncode_any f w hd
                  rw [hd] at HD
                  have HDm := Lib.hid hd
                  clear hd
                  go_region_held3 (fun w' => Below wa.heap.size wa w') (first | exact HB2.out.drew | assumption) (first | (go_at_call 28; refine (HD _).mono ?_; rintro e w' ⟨rfl, rfl⟩) | (go_at_call 29; refine (HE _).mono ?_; rintro e w' ⟨rfl, hB9⟩; have hS9 := below_on (by assumption) hB9))
                  clear q1 q2 q3 q4 q5 q6 HD HE
                  rename_i hB10
                  have HB10 := Lib.hid hB10
                  clear hB10
                  go_wp2_with fail
                  · have hq : ((strOfNums (enc f)).toList == (S.extract p (p + 1)).toList) = true := by assumption
                    have hq2 : (enc f == [f]) = true := by
                      rw [← hq, str_cmp HS.out HB.out (enc_byte HDm.out), HBS.out]; rfl
                    exact ⟨pick_hit' (by rw [HCN.out, HDm.out, hq2]; rfl) (by omega) (by have := HDL.out; have := HN.out; omega) HB10.out _ _ rfl rfl, by simp [intOf]⟩
                  · have hq' : ((strOfNums (enc f)).toList == (S.extract p (p + 1)).toList) = false := by assumption
                    have hq2 : (enc f == [f]) = false := by
                      rw [← hq', str_cmp HS.out HB.out (enc_byte HDm.out), HBS.out]; rfl
                    exact ⟨pick_miss' (by rw [HCN.out, HDm.out, hq2]; rfl) (by omega) (by have := HDL.out; have := HN.out; omega) HB10.out _ rfl, by simp [intOf]⟩
              · as_aux_lemma =>
                  have hd' : dom f = false := by simpa using hd
                  rw [hd'] at HD
                  have HDm := Lib.hid hd'
                  clear hd hd'
                  go_quiet ((go_at_call 28; exact Calls.quiet_of_same (HD _)))
                  clear q1 q2 q3 q4 q5 q6 HD
                  go_wp2_with fail
                  exact ⟨pick_miss' (by rw [HCN.out, HDm.out]; rfl) (by omega) (by have := HDL.out; have := HN.out; omega) (below_drewN HB2.out _) _ rfl, by simp [intOf]⟩
          · have e0 : ((1 + 1 : Nat) : Int) = 2 := rfl
            rw [e0]
            clear e0
            by_cases hm : (p : Int) + 2 ≤ (S.size : Int)
            · have i0 : p < S.size := by omega
              obtain ⟨f, hf⟩ : ∃ x : Int, ((S[p]'i0).toNat : Int) = x := ⟨_, rfl⟩
              have hfs : f = s[p]'(by have := HN.out; omega) := by rw [← hf]; exact byte_at HS.out HB.out _ _ _
              have hfb : byte f := by rw [hfs]; exact HB.out _ (List.getElem_mem _)
              obtain ⟨hf0, hf1⟩ := hfb
              have Ef := Lib.hid hfs
              clear hfs
              have i1 : p + 1 < S.size := by omega
              obtain ⟨c1x, hc1x⟩ : ∃ x : Int, ((S[p + 1]'i1).toNat : Int) = x := ⟨_, rfl⟩
              have hc1xs : c1x = s[p + 1]'(by have := HN.out; omega) := by rw [← hc1x]; exact byte_at HS.out HB.out _ _ _
              have hc1xb : byte c1x := by rw [hc1xs]; exact HB.out _ (List.getElem_mem _)
              obtain ⟨hc1x0, hc1x1⟩ := hc1xb
              have Ec1x := Lib.hid hc1xs
              clear hc1xs
              have hbs : s.drop p = f :: c1x :: s.drop (p + 2) := by
                rw [Ef.out, Ec1x.out]
                rw [List.drop_eq_getElem_cons hlt, List.drop_eq_getElem_cons (i := p + 1) (by have := HN.out; omega)]
              have HBS := Lib.hid hbs
              clear hbs
              have hsk : f < 192 → cand 2 (s.drop p) = none := fun h => by rw [HBS.out]; exact if_pos h
              have hcd : ¬ (f < 192) → cand 2 (s.drop p) = if dom (dec2 f c1x) && enc (dec2 f c1x) == [f, c1x] then some (dec2 f c1x) else none := fun h => by rw [HBS.out]; exact if_neg h
              have HSK := Lib.hid hsk
              have HCD := Lib.hid hcd
              clear hsk hcd
              by_cases hs1 : f < 192
              · as_aux_lemma =>
                  go_wp2_with fail
                  exact ⟨pick_miss' (HSK.out hs1) (by omega) (by have := HDL.out; have := HN.out; omega) HB2.out _ (by rfl), by simp [intOf]⟩
              · have z0 : bits .and .i64 f 31 = f % 32 := i64_and31 (by omega) (by omega)
                have z1 : bits .and .i64 c1x 63 = c1x % 64 := i64_and63 (by omega) (by omega)
                obtain ⟨x, hx⟩ : ∃ x, dec2 f c1x = x := ⟨_, rfl⟩
                have hx0 : 0 ≤ x ∧ x < 2097152 := by rw [← hx]; unfold dec2; omega
                have y1 : bits .or .i64 (f % 32 * 64) (c1x % 64) = x := by rw [i64_or6 (by omega) (by omega) (by omega) (by omega) (by omega), ← hx]; unfold dec2; omega
                rw [hx] at HCD
                clear hx
                obtain ⟨hxa, hxb⟩ := hx0
                have HCN := Lib.hid (HCD.out hs1)
                clear HCD HSK
                go_wp2_with fail
                refine wp_loop_rounds 2 ?_
                rw [rounds_succ]
                go_wp2_with fail
                rw [rounds_succ]
                go_wp2_with fail
                clear z0
                clear z1
                clear y1
                have q1 : IntKind.i64.wrap ((p : Int) + 2) = (p : Int) + 2 := IntWalk.i64_in _ (by omega)
                have q2 : (0 : Int) ≤ (p : Int) + 2 := by omega
                have q3 : ((p : Int) + 2).toNat = p + 2 := by omega
                have q4 : (p : Int) ≤ (p : Int) + 2 := by omega
                have q5 : (0 : Int) ≤ (p : Int) := by omega
                have q6 : ((p : Int)).toNat = p := rfl
                have HD := fun w => reedDomain_any x w
                by_cases hd : dom x = true
                · as_aux_lemma =>
                    have HE := fun w => reedEncode_any x w hd
                    rw [hd] at HD
                    have HDm := Lib.hid hd
                    clear hd
                    go_region_held3 (fun w' => Below wa.heap.size wa w') (first | exact HB2.out.drew | assumption) (first | (go_at_call 28; refine (HD _).mono ?_; rintro e w' ⟨rfl, rfl⟩) | (go_at_call 29; refine (HE _).mono ?_; rintro e w' ⟨rfl, hB9⟩; have hS9 := below_on (by assumption) hB9))
                    clear q1 q2 q3 q4 q5 q6 HD HE
                    rename_i hB10
                    have HB10 := Lib.hid hB10
                    clear hB10
                    go_wp2_with fail
                    · have hq : ((strOfNums (enc x)).toList == (S.extract p (p + 2)).toList) = true := by assumption
                      have hq2 : (enc x == [f, c1x]) = true := by
                        rw [← hq, str_cmp HS.out HB.out (enc_byte HDm.out), HBS.out]; rfl
                      exact ⟨pick_hit' (by rw [HCN.out, HDm.out, hq2]; rfl) (by omega) (by have := HDL.out; have := HN.out; omega) HB10.out _ _ rfl rfl, by simp [intOf]⟩
                    · have hq' : ((strOfNums (enc x)).toList == (S.extract p (p + 2)).toList) = false := by assumption
                      have hq2 : (enc x == [f, c1x]) = false := by
                        rw [← hq', str_cmp HS.out HB.out (enc_byte HDm.out), HBS.out]; rfl
                      exact ⟨pick_miss' (by rw [HCN.out, HDm.out, hq2]; rfl) (by omega) (by have := HDL.out; have := HN.out; omega) HB10.out _ rfl, by simp [intOf]⟩
                · as_aux_lemma =>
                    have hd' : dom x = false := by simpa using hd
                    rw [hd'] at HD
                    have HDm := Lib.hid hd'
                    clear hd hd'
                    go_quiet ((go_at_call 28; exact Calls.quiet_of_same (HD _)))
                    clear q1 q2 q3 q4 q5 q6 HD
                    go_wp2_with fail
                    exact ⟨pick_miss' (by rw [HCN.out, HDm.out]; rfl) (by omega) (by have := HDL.out; have := HN.out; omega) (below_drewN HB2.out _) _ rfl, by simp [intOf]⟩
            · as_aux_lemma =>
                have hm' : ¬ ((p : Int) + 2 ≤ (S.size : Int)) := hm
                clear hm
                go_wp2_with fail
                go_meet
                have hps : pick (s.drop p) 4 = pick (s.drop p) 1 := pick_short (by have := HDL.out; have := HN.out; omega) (by omega)
                rw [← HPD.out, hps]
                exact ⟨rfl, rfl, HB2.out⟩
          · have e0 : ((2 + 1 : Nat) : Int) = 3 := rfl
            rw [e0]
            clear e0
            by_cases hm : (p : Int) + 3 ≤ (S.size : Int)
            · have i0 : p < S.size := by omega
              obtain ⟨f, hf⟩ : ∃ x : Int, ((S[p]'i0).toNat : Int) = x := ⟨_, rfl⟩
              have hfs : f = s[p]'(by have := HN.out; omega) := by rw [← hf]; exact byte_at HS.out HB.out _ _ _
              have hfb : byte f := by rw [hfs]; exact HB.out _ (List.getElem_mem _)
              obtain ⟨hf0, hf1⟩ := hfb
              have Ef := Lib.hid hfs
              clear hfs
              have i1 : p + 1 < S.size := by omega
              obtain ⟨c1x, hc1x⟩ : ∃ x : Int, ((S[p + 1]'i1).toNat : Int) = x := ⟨_, rfl⟩
              have hc1xs : c1x = s[p + 1]'(by have := HN.out; omega) := by rw [← hc1x]; exact byte_at HS.out HB.out _ _ _
              have hc1xb : byte c1x := by rw [hc1xs]; exact HB.out _ (List.getElem_mem _)
              obtain ⟨hc1x0, hc1x1⟩ := hc1xb
              have Ec1x := Lib.hid hc1xs
              clear hc1xs
              have i2 : p + 2 < S.size := by omega
              obtain ⟨c2x, hc2x⟩ : ∃ x : Int, ((S[p + 2]'i2).toNat : Int) = x := ⟨_, rfl⟩
              have hc2xs : c2x = s[p + 2]'(by have := HN.out; omega) := by rw [← hc2x]; exact byte_at HS.out HB.out _ _ _
              have hc2xb : byte c2x := by rw [hc2xs]; exact HB.out _ (List.getElem_mem _)
              obtain ⟨hc2x0, hc2x1⟩ := hc2xb
              have Ec2x := Lib.hid hc2xs
              clear hc2xs
              have hbs : s.drop p = f :: c1x :: c2x :: s.drop (p + 3) := by
                rw [Ef.out, Ec1x.out, Ec2x.out]
                rw [List.drop_eq_getElem_cons hlt, List.drop_eq_getElem_cons (i := p + 1) (by have := HN.out; omega), List.drop_eq_getElem_cons (i := p + 2) (by have := HN.out; omega)]
              have HBS := Lib.hid hbs
              clear hbs
              have hsk : f < 192 → cand 3 (s.drop p) = none := fun h => by rw [HBS.out]; exact if_pos h
              have hcd : ¬ (f < 192) → cand 3 (s.drop p) = if dom (dec3 f c1x c2x) && enc (dec3 f c1x c2x) == [f, c1x, c2x] then some (dec3 f c1x c2x) else none := fun h => by rw [HBS.out]; exact if_neg h
              have HSK := Lib.hid hsk
              have HCD := Lib.hid hcd
              clear hsk hcd
              by_cases hs1 : f < 192
              · as_aux_lemma =>
                  go_wp2_with fail
                  exact ⟨pick_miss' (HSK.out hs1) (by omega) (by have := HDL.out; have := HN.out; omega) HB2.out _ (by rfl), by simp [intOf]⟩
              · have z0 : bits .and .i64 f 15 = f % 16 := i64_and15 (by omega) (by omega)
                have z1 : bits .and .i64 c1x 63 = c1x % 64 := i64_and63 (by omega) (by omega)
                obtain ⟨r1, hr1⟩ : ∃ r, f % 16 * 64 + c1x % 64 = r := ⟨_, rfl⟩
                have r1a : 0 ≤ r1 := by omega
                have r1b : r1 < 1048576 := by omega
                have y1 : bits .or .i64 (f % 16 * 64) (c1x % 64) = r1 := by rw [i64_or6 (by omega) (by omega) (by omega) (by omega) (by omega)]; exact hr1
                have R1 := Lib.hid hr1
                have z2 : bits .and .i64 c2x 63 = c2x % 64 := i64_and63 (by omega) (by omega)
                obtain ⟨x, hx⟩ : ∃ x, dec3 f c1x c2x = x := ⟨_, rfl⟩
                have hx0 : 0 ≤ x ∧ x < 2097152 := by rw [← hx]; unfold dec3; have := R1.out; omega
                have y2 : bits .or .i64 (r1 * 64) (c2x % 64) = x := by rw [i64_or6 (by omega) (by omega) (by omega) (by omega) (by omega), ← hx]; unfold dec3; have := R1.out; omega
                clear hr1
                rw [hx] at HCD
                clear hx
                obtain ⟨hxa, hxb⟩ := hx0
                have HCN := Lib.hid (HCD.out hs1)
                clear HCD HSK
                go_wp2_with fail
                refine wp_loop_rounds 3 ?_
                rw [rounds_succ]
                go_wp2_with fail
                rw [rounds_succ]
                go_wp2_with fail
                rw [rounds_succ]
                go_wp2_with fail
                clear z0
                clear z1
                clear z2
                clear y1
                clear y2
                have q1 : IntKind.i64.wrap ((p : Int) + 3) = (p : Int) + 3 := IntWalk.i64_in _ (by omega)
                have q2 : (0 : Int) ≤ (p : Int) + 3 := by omega
                have q3 : ((p : Int) + 3).toNat = p + 3 := by omega
                have q4 : (p : Int) ≤ (p : Int) + 3 := by omega
                have q5 : (0 : Int) ≤ (p : Int) := by omega
                have q6 : ((p : Int)).toNat = p := rfl
                have HD := fun w => reedDomain_any x w
                by_cases hd : dom x = true
                · as_aux_lemma =>
                    have HE := fun w => reedEncode_any x w hd
                    rw [hd] at HD
                    have HDm := Lib.hid hd
                    clear hd
                    go_region_held3 (fun w' => Below wa.heap.size wa w') (first | exact HB2.out.drew | assumption) (first | (go_at_call 28; refine (HD _).mono ?_; rintro e w' ⟨rfl, rfl⟩) | (go_at_call 29; refine (HE _).mono ?_; rintro e w' ⟨rfl, hB9⟩; have hS9 := below_on (by assumption) hB9))
                    clear q1 q2 q3 q4 q5 q6 HD HE
                    rename_i hB10
                    have HB10 := Lib.hid hB10
                    clear hB10
                    go_wp2_with fail
                    · have hq : ((strOfNums (enc x)).toList == (S.extract p (p + 3)).toList) = true := by assumption
                      have hq2 : (enc x == [f, c1x, c2x]) = true := by
                        rw [← hq, str_cmp HS.out HB.out (enc_byte HDm.out), HBS.out]; rfl
                      exact ⟨pick_hit' (by rw [HCN.out, HDm.out, hq2]; rfl) (by omega) (by have := HDL.out; have := HN.out; omega) HB10.out _ _ rfl rfl, by simp [intOf]⟩
                    · have hq' : ((strOfNums (enc x)).toList == (S.extract p (p + 3)).toList) = false := by assumption
                      have hq2 : (enc x == [f, c1x, c2x]) = false := by
                        rw [← hq', str_cmp HS.out HB.out (enc_byte HDm.out), HBS.out]; rfl
                      exact ⟨pick_miss' (by rw [HCN.out, HDm.out, hq2]; rfl) (by omega) (by have := HDL.out; have := HN.out; omega) HB10.out _ rfl, by simp [intOf]⟩
                · as_aux_lemma =>
                    have hd' : dom x = false := by simpa using hd
                    rw [hd'] at HD
                    have HDm := Lib.hid hd'
                    clear hd hd'
                    go_quiet ((go_at_call 28; exact Calls.quiet_of_same (HD _)))
                    clear q1 q2 q3 q4 q5 q6 HD
                    go_wp2_with fail
                    exact ⟨pick_miss' (by rw [HCN.out, HDm.out]; rfl) (by omega) (by have := HDL.out; have := HN.out; omega) (below_drewN HB2.out _) _ rfl, by simp [intOf]⟩
            · as_aux_lemma =>
                have hm' : ¬ ((p : Int) + 3 ≤ (S.size : Int)) := hm
                clear hm
                go_wp2_with fail
                go_meet
                have hps : pick (s.drop p) 4 = pick (s.drop p) 2 := pick_short (by have := HDL.out; have := HN.out; omega) (by omega)
                rw [← HPD.out, hps]
                exact ⟨rfl, rfl, HB2.out⟩
          · have e0 : ((3 + 1 : Nat) : Int) = 4 := rfl
            rw [e0]
            clear e0
            by_cases hm : (p : Int) + 4 ≤ (S.size : Int)
            · have i0 : p < S.size := by omega
              obtain ⟨f, hf⟩ : ∃ x : Int, ((S[p]'i0).toNat : Int) = x := ⟨_, rfl⟩
              have hfs : f = s[p]'(by have := HN.out; omega) := by rw [← hf]; exact byte_at HS.out HB.out _ _ _
              have hfb : byte f := by rw [hfs]; exact HB.out _ (List.getElem_mem _)
              obtain ⟨hf0, hf1⟩ := hfb
              have Ef := Lib.hid hfs
              clear hfs
              have i1 : p + 1 < S.size := by omega
              obtain ⟨c1x, hc1x⟩ : ∃ x : Int, ((S[p + 1]'i1).toNat : Int) = x := ⟨_, rfl⟩
              have hc1xs : c1x = s[p + 1]'(by have := HN.out; omega) := by rw [← hc1x]; exact byte_at HS.out HB.out _ _ _
              have hc1xb : byte c1x := by rw [hc1xs]; exact HB.out _ (List.getElem_mem _)
              obtain ⟨hc1x0, hc1x1⟩ := hc1xb
              have Ec1x := Lib.hid hc1xs
              clear hc1xs
              have i2 : p + 2 < S.size := by omega
              obtain ⟨c2x, hc2x⟩ : ∃ x : Int, ((S[p + 2]'i2).toNat : Int) = x := ⟨_, rfl⟩
              have hc2xs : c2x = s[p + 2]'(by have := HN.out; omega) := by rw [← hc2x]; exact byte_at HS.out HB.out _ _ _
              have hc2xb : byte c2x := by rw [hc2xs]; exact HB.out _ (List.getElem_mem _)
              obtain ⟨hc2x0, hc2x1⟩ := hc2xb
              have Ec2x := Lib.hid hc2xs
              clear hc2xs
              have i3 : p + 3 < S.size := by omega
              obtain ⟨c3x, hc3x⟩ : ∃ x : Int, ((S[p + 3]'i3).toNat : Int) = x := ⟨_, rfl⟩
              have hc3xs : c3x = s[p + 3]'(by have := HN.out; omega) := by rw [← hc3x]; exact byte_at HS.out HB.out _ _ _
              have hc3xb : byte c3x := by rw [hc3xs]; exact HB.out _ (List.getElem_mem _)
              obtain ⟨hc3x0, hc3x1⟩ := hc3xb
              have Ec3x := Lib.hid hc3xs
              clear hc3xs
              have hbs : s.drop p = f :: c1x :: c2x :: c3x :: s.drop (p + 4) := by
                rw [Ef.out, Ec1x.out, Ec2x.out, Ec3x.out]
                rw [List.drop_eq_getElem_cons hlt, List.drop_eq_getElem_cons (i := p + 1) (by have := HN.out; omega), List.drop_eq_getElem_cons (i := p + 2) (by have := HN.out; omega), List.drop_eq_getElem_cons (i := p + 3) (by have := HN.out; omega)]
              have HBS := Lib.hid hbs
              clear hbs
              have hsk : f < 192 → cand 4 (s.drop p) = none := fun h => by rw [HBS.out]; exact if_pos h
              have hcd : ¬ (f < 192) → cand 4 (s.drop p) = if dom (dec4 f c1x c2x c3x) && enc (dec4 f c1x c2x c3x) == [f, c1x, c2x, c3x] then some (dec4 f c1x c2x c3x) else none := fun h => by rw [HBS.out]; exact if_neg h
              have HSK := Lib.hid hsk
              have HCD := Lib.hid hcd
              clear hsk hcd
              by_cases hs1 : f < 192
              · as_aux_lemma =>
                  go_wp2_with fail
                  exact ⟨pick_miss' (HSK.out hs1) (by omega) (by have := HDL.out; have := HN.out; omega) HB2.out _ (by rfl), by simp [intOf]⟩
              · have z0 : bits .and .i64 f 7 = f % 8 := i64_and7 (by omega) (by omega)
                have z1 : bits .and .i64 c1x 63 = c1x % 64 := i64_and63 (by omega) (by omega)
                obtain ⟨r1, hr1⟩ : ∃ r, f % 8 * 64 + c1x % 64 = r := ⟨_, rfl⟩
                have r1a : 0 ≤ r1 := by omega
                have r1b : r1 < 1048576 := by omega
                have y1 : bits .or .i64 (f % 8 * 64) (c1x % 64) = r1 := by rw [i64_or6 (by omega) (by omega) (by omega) (by omega) (by omega)]; exact hr1
                have R1 := Lib.hid hr1
                have z2 : bits .and .i64 c2x 63 = c2x % 64 := i64_and63 (by omega) (by omega)
                obtain ⟨r2, hr2⟩ : ∃ r, r1 * 64 + c2x % 64 = r := ⟨_, rfl⟩
                have r2a : 0 ≤ r2 := by omega
                have r2b : r2 < 1048576 := by omega
                have y2 : bits .or .i64 (r1 * 64) (c2x % 64) = r2 := by rw [i64_or6 (by omega) (by omega) (by omega) (by omega) (by omega)]; exact hr2
                have R2 := Lib.hid hr2
                have z3 : bits .and .i64 c3x 63 = c3x % 64 := i64_and63 (by omega) (by omega)
                obtain ⟨x, hx⟩ : ∃ x, dec4 f c1x c2x c3x = x := ⟨_, rfl⟩
                have hx0 : 0 ≤ x ∧ x < 2097152 := by rw [← hx]; unfold dec4; have := R1.out; have := R2.out; omega
                have y3 : bits .or .i64 (r2 * 64) (c3x % 64) = x := by rw [i64_or6 (by omega) (by omega) (by omega) (by omega) (by omega), ← hx]; unfold dec4; have := R1.out; have := R2.out; omega
                clear hr1
                clear hr2
                rw [hx] at HCD
                clear hx
                obtain ⟨hxa, hxb⟩ := hx0
                have HCN := Lib.hid (HCD.out hs1)
                clear HCD HSK
                go_wp2_with fail
                refine wp_loop_rounds 4 ?_
                rw [rounds_succ]
                go_wp2_with fail
                rw [rounds_succ]
                go_wp2_with fail
                rw [rounds_succ]
                go_wp2_with fail
                rw [rounds_succ]
                go_wp2_with fail
                clear z0
                clear z1
                clear z2
                clear z3
                clear y1
                clear y2
                clear y3
                have q1 : IntKind.i64.wrap ((p : Int) + 4) = (p : Int) + 4 := IntWalk.i64_in _ (by omega)
                have q2 : (0 : Int) ≤ (p : Int) + 4 := by omega
                have q3 : ((p : Int) + 4).toNat = p + 4 := by omega
                have q4 : (p : Int) ≤ (p : Int) + 4 := by omega
                have q5 : (0 : Int) ≤ (p : Int) := by omega
                have q6 : ((p : Int)).toNat = p := rfl
                have HD := fun w => reedDomain_any x w
                by_cases hd : dom x = true
                · as_aux_lemma =>
                    have HE := fun w => reedEncode_any x w hd
                    rw [hd] at HD
                    have HDm := Lib.hid hd
                    clear hd
                    go_region_held3 (fun w' => Below wa.heap.size wa w') (first | exact HB2.out.drew | assumption) (first | (go_at_call 28; refine (HD _).mono ?_; rintro e w' ⟨rfl, rfl⟩) | (go_at_call 29; refine (HE _).mono ?_; rintro e w' ⟨rfl, hB9⟩; have hS9 := below_on (by assumption) hB9))
                    clear q1 q2 q3 q4 q5 q6 HD HE
                    rename_i hB10
                    have HB10 := Lib.hid hB10
                    clear hB10
                    go_wp2_with fail
                    · have hq : ((strOfNums (enc x)).toList == (S.extract p (p + 4)).toList) = true := by assumption
                      have hq2 : (enc x == [f, c1x, c2x, c3x]) = true := by
                        rw [← hq, str_cmp HS.out HB.out (enc_byte HDm.out), HBS.out]; rfl
                      exact ⟨pick_hit' (by rw [HCN.out, HDm.out, hq2]; rfl) (by omega) (by have := HDL.out; have := HN.out; omega) HB10.out _ _ rfl rfl, by simp [intOf]⟩
                    · have hq' : ((strOfNums (enc x)).toList == (S.extract p (p + 4)).toList) = false := by assumption
                      have hq2 : (enc x == [f, c1x, c2x, c3x]) = false := by
                        rw [← hq', str_cmp HS.out HB.out (enc_byte HDm.out), HBS.out]; rfl
                      exact ⟨pick_miss' (by rw [HCN.out, HDm.out, hq2]; rfl) (by omega) (by have := HDL.out; have := HN.out; omega) HB10.out _ rfl, by simp [intOf]⟩
                · as_aux_lemma =>
                    have hd' : dom x = false := by simpa using hd
                    rw [hd'] at HD
                    have HDm := Lib.hid hd'
                    clear hd hd'
                    go_quiet ((go_at_call 28; exact Calls.quiet_of_same (HD _)))
                    clear q1 q2 q3 q4 q5 q6 HD
                    go_wp2_with fail
                    exact ⟨pick_miss' (by rw [HCN.out, HDm.out]; rfl) (by omega) (by have := HDL.out; have := HN.out; omega) (below_drewN HB2.out _) _ rfl, by simp [intOf]⟩
            · as_aux_lemma =>
                have hm' : ¬ ((p : Int) + 4 ≤ (S.size : Int)) := hm
                clear hm
                go_wp2_with fail
                go_meet
                have hps : pick (s.drop p) 4 = pick (s.drop p) 3 := pick_short (by have := HDL.out; have := HN.out; omega) (by omega)
                rw [← HPD.out, hps]
                exact ⟨rfl, rfl, HB2.out⟩
          · have e0 : ((4 + 1 : Nat) : Int) = 5 := rfl
            rw [e0]
            clear e0
            go_wp2_with fail
            go_meet
            rw [← HPD.out]
            exact ⟨rfl, rfl, HB2.out⟩
      case rest =>
        obtain ⟨rfl, rfl, hB⟩ := hcut
        have HH2 := Lib.hid (HH.out.below hB)
        clear hB HH HPD
        generalize dec (s.drop p) = d at *
        obtain ⟨d1, d2⟩ := d
        obtain ⟨hw1, hw2, hw3⟩ := HW.out
        simp only at hw1 hw2 hw3
        go_wp2_with (at_builtin; refine wpList_row_append rfl _ _ rfl HA.out HZ.out rfl (.slice a1 j c1) (ints l1) [.int .i64 d1] ⟨wc.heap.size, 0, none⟩ 1 1 rfl rfl rfl ((HH2.out.alloc _).row (i := 0) rfl) (cell_one_new _ _ _) (by simp [Value.oneCell']) (fits_small (by rw [HL1.out]; simp; omega) HY.out) (by rw [HY.out]; decide) ?_)
        intro v1' wd hrow hgr hblk
        have HH3 := Lib.hid (HH2.out.app (i := 0) rfl hrow hgr (by simpa using hblk))
        clear hrow hgr hblk HH2
        go_wp2_with (at_builtin; refine wpList_row_append rfl _ _ rfl HA.out HZ.out rfl (.slice a2 j c2) (ints l2) [.int .i64 p] ⟨wd.heap.size, 0, none⟩ 1 1 rfl rfl rfl ((HH3.out.alloc _).row (i := 1) rfl) (cell_one_new _ _ _) (by simp [Value.oneCell']) (fits_small (by rw [HL2.out]; simp; omega) HY.out) (by rw [HY.out]; decide) ?_)
        intro v2' we hrow hgr hblk
        have HH4 := Lib.hid (HH3.out.app (i := 1) rfl hrow hgr (by simpa using hblk))
        clear hrow hgr hblk HH3
        go_wp2_with fail
        refine ⟨⟨j + 1, fun i hi => ?_, ?_, ?_⟩, ?_⟩
        · rcases Nat.lt_or_ge i j with h' | h'
          · exact HNO.out i h'
          · have : i = j := by omega
            rw [this, HP.out]
            exact hlt
        · rw [HST.out]
          exact int_eq (by simp)
        · rw [HST.out]
          have := HH4.out
          rw [ints_snoc, ints_snoc] at this
          exact this
        · simp only [intOf]
          omega
    · have hJ : Done s j := ⟨by omega, hno⟩
      have hlt' : ¬ (((cutSt s j).1 : Int) < (S.size : Int)) := by have := HN.out; omega
      have hl2 : (ints (cutSt s j).2.2).length = j := by rw [ints, List.length_map]; exact (cutSt_len s j).2
      have hjs : j ≤ s.length := by
        rcases Nat.eq_zero_or_pos j with h' | h'
        · omega
        · have h1 := hno (j - 1) (by omega)
          have := cutSt_ge s (j - 1) h1
          omega
      obtain ⟨a1, c1, hv1⟩ := row_slice (hh.row (i := 0) rfl)
      obtain ⟨a2, c2, hv2⟩ := row_slice (hh.row (i := 1) rfl)
      rw [hl2] at hv2
      subst hv1
      subst hv2
      have HH := Lib.hid hh
      have HJ := Lib.hid hJ
      have HL2 := Lib.hid hl2
      clear hh hno hJ hl2
      rename World => wa
      go_wp2_with (at_builtin; refine wpList_row_append rfl _ _ rfl HA.out HZ.out rfl (.slice a2 j c2) (ints (cutSt s j).2.2) [.int .i64 S.size] ⟨wa.heap.size, 0, none⟩ 1 1 rfl rfl rfl ((HH.out.alloc _).row (i := 1) rfl) (cell_one_new _ _ _) (by simp [Value.oneCell']) (fits_small (by rw [HL2.out]; simp; omega) HY.out) (by rw [HY.out]; decide) ?_)
      intro v2' we hrow hgr hblk
      have HH4 := Lib.hid (HH.out.app (i := 1) rfl hrow hgr (by simpa using hblk))
      clear hrow hgr hblk HH
      go_wp2_with fail
      go_ret2
      refine ⟨_, _, rfl, j, HJ.out, HH4.out.row (i := 0) rfl, ?_, HH4.out.bel⟩
      have := HH4.out.row (i := 1) rfl
      rw [ints_snoc, HN.out] at this
      exact this
end Go.Proofs.YtmbgnmnaonjdgaaGreatDoor
