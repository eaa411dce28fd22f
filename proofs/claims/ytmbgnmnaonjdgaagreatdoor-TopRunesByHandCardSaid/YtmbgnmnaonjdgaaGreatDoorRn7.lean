/- PART OF A PROOF over the given program: Rn7. See the last text of the claim for the statement. -/
import Derived.Test.YtmbgnmnaonjdgaaGreatDoorRn6
import Derived.Test.YtmbgnmnaonjdgaaGreatDoorKp13
namespace Go.Runes
theorem done_first (s : List Int) (J : Nat) (h1 : (cutSt s J).1 = s.length) (h0 : s ≠ []) (hno : ∀ j, j < J → (cutSt s j).1 < s.length) :
    (cutSt s J).2.1[0]? = some (dec s).1 ∧ ((cutSt s J).2.2 ++ [(s.length : Int)])[1]? = some ((dec s).2 : Int) := by
  have hJ : 0 < J := by
    rcases Nat.eq_zero_or_pos J with h | h
    · subst h
      simp [cutSt] at h1
      exact absurd (List.eq_nil_of_length_eq_zero h1.symm) h0
    · exact h
  have key : ∀ j, 0 < j → (cutSt s j).2.1[0]? = some (dec s).1 ∧ (cutSt s 1).1 = (dec s).2 ∧ (1 < j → (cutSt s j).2.2[1]? = some ((dec s).2 : Int)) := by
    intro j
    induction j with
    | zero => intro h; omega
    | succ j ih =>
      intro _
      rcases Nat.eq_zero_or_pos j with h | h
      · subst h
        simp [cutSt]
      · obtain ⟨a1, a2, a3⟩ := ih h
        refine ⟨?_, a2, fun _ => ?_⟩
        · simp only [cutSt]
          rw [List.getElem?_append_left (by rw [(cutSt_len s j).1]; exact h)]
          exact a1
        · simp only [cutSt]
          rcases Nat.lt_or_ge 1 j with h' | h'
          · rw [List.getElem?_append_left (by rw [(cutSt_len s j).2]; exact h')]
            exact a3 h'
          · have : j = 1 := by omega
            subst this
            rw [List.getElem?_append_right (by rw [(cutSt_len s 1).2]; exact Nat.le_refl _), (cutSt_len s 1).2, a2]
            rfl
  obtain ⟨a1, a2, a3⟩ := key J hJ
  refine ⟨a1, ?_⟩
  rcases Nat.lt_or_ge 1 J with h' | h'
  · rw [List.getElem?_append_left (by rw [(cutSt_len s J).2]; exact h')]
    exact a3 h'
  · have : J = 1 := by omega
    subst this
    rw [List.getElem?_append_right (by rw [(cutSt_len s 1).2]; exact Nat.le_refl _), (cutSt_len s 1).2, ← h1, a2]
    rfl

/-- the text of those that may be. -/
def encDom : List Int → List Int
  | [] => []
  | x :: l => (if dom x then enc x else []) ++ encDom l
theorem encDom_snoc (l : List Int) (x : Int) : encDom (l ++ [x]) = encDom l ++ (if dom x then enc x else []) := by
  induction l with
  | nil => simp [encDom]
  | cons y l ih => simp [encDom, ih]
end Go.Runes
namespace Go.Proofs.YtmbgnmnaonjdgaaGreatDoor
open Go Go.RowKit Go.Own Go.Runes Go.Eng

theorem encDom_all (l : List Int) (h : allDom l = true) : encDom l = encAll l := by
  induction l with
  | nil => rfl
  | cons y l ih =>
    simp only [allDom, List.all_cons, Bool.and_eq_true] at h
    rw [encDom, encAll, h.1, ih h.2]
    rfl
theorem encDom_len (l : List Int) : (encDom l).length ≤ 4 * l.length := by
  induction l with
  | nil => simp [encDom]
  | cons y l ih =>
    have := enc_len y
    rw [encDom]
    split <;> simp <;> omega
theorem strOfNums_app (l m : List Int) : strOfNums l ++ strOfNums m = strOfNums (l ++ m) := by
  apply ByteArray.ext
  rw [ByteArray.data_append]
  simp [strOfNums]

theorem dec_call {a : Option Addr} {c : Nat} {s : List Int} {w : World} {e : TypeId} {fr : Nat × Nat} (hL : w.heap[0]? = some (.cells leadsCells.toArray e fr)) (hs : BAt w a s) (hby : ∀ x ∈ s, byte x) (hc : s.length ≤ c) :
    Calls Tryz.prog 27 #[.slice a s.length c] w fun e w' => e = .returned (.tuple #[.int .i64 (dec s).1, .int .i64 (dec s).2]) ∧ Below w.heap.size w w' := by
  rcases s with _ | ⟨f, t⟩
  · exact (decode_none a c w).mono fun e w' ⟨h1, h2⟩ => ⟨by rw [h1]; rfl, by rw [h2]; exact Below.refl _ _⟩
  · obtain ⟨b, off, rfl, _⟩ := hs 0 f rfl
    have := decode_at (at' := 0) hL hs hby (by simp) hc
    simpa using this

theorem conv_any {a : Option Addr} {c : Nat} {s : List Int} {w : World} (hs : BAt w a s) : (convert 29 9 (.slice a s.length c)).run Tryz.prog w = .ok (.string (strOfNums s)) w := by
  rcases s with _ | ⟨f, t⟩
  · have := run_convert_bytes_string (P := Tryz.prog) w 29 9 5 a 0 c Tryz.underlying29 Tryz.underlying5 Tryz.underlying9
    rw [show (([] : List Int).length) = 0 from rfl, this]
    cases a with
    | none => rfl
    | some a => simp [Conv.bytesToString, loadCells]; rfl
  · obtain ⟨b, off, rfl, _⟩ := hs 0 f rfl
    refine run_convert_bytes_arg w 29 5 Tryz.underlying29 Tryz.underlying5 b off _ c (f :: t) rfl (fun i hi => ?_) 9 Tryz.underlying9
    obtain ⟨b2, o2, he, _, h2⟩ := hs i _ (List.getElem?_eq_getElem hi)
    simp only [Option.some.injEq, Addr.mk.injEq] at he
    obtain ⟨rfl, rfl, _⟩ := he
    rw [h2, List.getD_eq_getElem?_getD, List.getElem?_eq_getElem hi]
    rfl

theorem ints_rows {a1 a2 : Option Addr} {n1 n2 c1 c2 : Nat} {zs : List Int} {w : World} (hz : zs.length ≤ 1000000) (h1 : Row w 3 (.slice a1 n1 c1) (ints zs)) (h2 : Row w 3 (.slice a2 n2 c2) (ints zs)) :
    Calls Tryz.prog 21 #[.slice a1 n1 c1, .slice a2 n2 c2] w fun e w' => e = .returned (.bool true) ∧ ∃ m, w' = w.drewN m := by
  obtain ⟨e1, r1⟩ := row_reads h1
  obtain ⟨e2, r2⟩ := row_reads h2
  subst e1
  subst e2
  exact ints_same a1 a2 c1 c2 zs w hz r1 r2

theorem K_le {s : List Int} {K : Nat} (h : Done s K) : K ≤ s.length := by
  rcases Nat.eq_zero_or_pos K with h' | h'
  · omega
  · have h1 := h.2 (K - 1) (by omega)
    have := cutSt_ge s (K - 1) h1
    omega

def EncLoop (W : World) (l : List Int) (s12 s13 s89 : Value) (w : World) : Prop :=
  ∃ k : Nat, k ≤ l.length ∧ s89 = .int .i64 k ∧ s12 = .string (strOfNums (encDom (l.take k))) ∧ s13 = .bool (allDom (l.take k)) ∧ Below W.heap.size W w

theorem encLoop_next {l : List Int} {k : Nat} {x : Int} (hk : l[k]? = some x) : k + 1 ≤ l.length ∧ encDom (l.take (k + 1)) = encDom (l.take k) ++ (if dom x then enc x else []) ∧ allDom (l.take (k + 1)) = (allDom (l.take k) && dom x) := by
  have hlt : k < l.length := by
    rcases Nat.lt_or_ge k l.length with h' | h'
    · exact h'
    · rw [List.getElem?_eq_none h'] at hk; cases hk
  have ht : l.take (k + 1) = l.take k ++ [x] := by
    rw [List.take_succ_eq_append_getElem hlt]
    rw [List.getElem?_eq_getElem hlt] at hk
    rw [Option.some.inj hk]
  rw [ht]
  exact ⟨hlt, encDom_snoc _ _, by rw [allDom, List.all_append]; simp [allDom]⟩

theorem row_bat {a : Option Addr} {n c : Nat} {s : List Int} {w : World} (h : Row w 5 (.slice a n c) (bytesV s)) : BAt w a s := fun j x hj => by
  have hc : ∀ b, (Value.slice a n c).ownBlock = some b → w.cell? ⟨b, j, none⟩ = some (.int .u8 x) := fun b hb => h.cell hb (by simp [bytesV, hj])
  have hl : ∀ b, (Value.slice a n c).ownBlock = some b → b < w.heap.size := fun b hb => h.lt hb
  rcases h with ⟨h, hz⟩ | ⟨b', cap, cur, h, _⟩
  · simp only [bytesV, List.map_eq_nil_iff] at hz
    subst hz
    simp at hj
  · simp only [Value.slice.injEq] at h
    obtain ⟨rfl, _, _⟩ := h
    exact ⟨b', 0, rfl, hl b' rfl, by rw [Nat.zero_add]; exact hc b' rfl⟩

def CutAt (W : World) (a a' : Option Addr) (c c' : Nat) (s l : List Int) (s0 s1 : Value) (w : World) : Prop :=
  s0 = .slice a s.length c ∧ s1 = .slice a' l.length c' ∧ Below W.heap.size W w

set_option maxRecDepth 100000 in
set_option maxHeartbeats 8000000 in
theorem byhand_any (a a' : Option Addr) (n n' c c' : Nat) (s l : List Int) (w : World) {e : TypeId} {fr : Nat × Nat} (hL : w.heap[0]? = some (.cells leadsCells.toArray e fr)) (hnc : n ≤ c) (hnc' : n' ≤ c')
    (hsn : s.length = min n 80) (hln : l.length = min n' 20) (hs : BAt w a s) (hl : IAt w a' l) (hby : ∀ x ∈ s, byte x)
    (hawake : Calls Tryz.prog 7 #[] w fun en w1 => en = .returned (.bool true) ∧ Below w.heap.size w w1) :
    Calls Tryz.prog 5 #[.slice a n c, .slice a' n' c'] w fun e w' => e = .returned (.bool true) ∧ Below w.heap.size w w' := by
  have h0lt : 0 < w.heap.size := by
    rcases Nat.eq_zero_or_pos w.heap.size with h' | h'
    · rw [Array.getElem?_eq_none (by omega)] at hL; cases hL
    · exact h'
  have HL := Lib.hid hL
  have HS := Lib.hid hs
  have HI := Lib.hid hl
  have HB := Lib.hid hby
  have HSN := Lib.hid hsn
  have HLN := Lib.hid hln
  have hcs : s.length ≤ c := by omega
  clear hL hs hl hby hsn hln
  go_enter Tryz.func5, Tryz.ntmps5
  go_wp2_with fail
  refine hawake.mono ?_
  rintro e w1 ⟨rfl, b1⟩
  clear hawake
  go_upto_region 2 with fail
  go_cut [0, 1] (fun s0 s1 wx => CutAt w a a' c c' s l s0 s1 wx)
  case first =>
    by_cases h1 : (n : Int) ≤ 80
    · by_cases h2 : (n' : Int) ≤ 20
      · as_aux_lemma =>
          go_quiet (fail)
          go_wp2_with fail
          go_meet
          exact ⟨by rw [show s.length = n by have := HSN.out; omega], by rw [show l.length = n' by have := HLN.out; omega], below_drewN b1 _⟩
      · as_aux_lemma =>
          have k3 : (20 : Int) < n' := by omega
          have k4 : (20 : Int) ≤ c' := by omega
          go_quiet (fail)
          go_wp2_with fail
          go_meet
          exact ⟨by rw [show s.length = n by have := HSN.out; omega], by rw [show l.length = 20 by have := HLN.out; omega], below_drewN b1 _⟩
    · by_cases h2 : (n' : Int) ≤ 20
      · as_aux_lemma =>
          have k1 : (80 : Int) < n := by omega
          have k2 : (80 : Int) ≤ c := by omega
          go_quiet (fail)
          go_wp2_with fail
          go_meet
          exact ⟨by rw [show s.length = 80 by have := HSN.out; omega], by rw [show l.length = n' by have := HLN.out; omega], below_drewN b1 _⟩
      · as_aux_lemma =>
          have k1 : (80 : Int) < n := by omega
          have k2 : (80 : Int) ≤ c := by omega
          have k3 : (20 : Int) < n' := by omega
          have k4 : (20 : Int) ≤ c' := by omega
          go_quiet (fail)
          go_wp2_with fail
          go_meet
          exact ⟨by rw [show s.length = 80 by have := HSN.out; omega], by rw [show l.length = 20 by have := HLN.out; omega], below_drewN b1 _⟩
  case rest =>
    obtain ⟨rfl, rfl, b2⟩ := hcut
    have h80 : s.length ≤ 80 := by have := HSN.out; omega
    have h20 : l.length ≤ 20 := by have := HLN.out; omega
    clear b1
    have hLx := fun (wx : World) (hB : Below w.heap.size w wx) => (hB.block 0 h0lt).trans HL.out
    have HLX := Lib.hid hLx
    clear hLx
    have B2 := Lib.hid b2
    clear b2
    go_wp2_with fail
    refine (cut_any (e := e) (fr := fr) a c s wc (HLX.out _ B2.out) (HS.out.below B2.out) HB.out hcs (by omega)).mono ?_
    rintro e w2 ⟨v1, v2, rfl, J, hJ, hr1, hr2, b3⟩
    obtain ⟨a1, c1, hv1⟩ := row_slice hr1
    obtain ⟨a2, c2, hv2⟩ := row_slice hr2
    generalize (ints (cutSt s J).2.1).length = n1 at hv1
    generalize (ints ((cutSt s J).2.2 ++ [(s.length : Int)])).length = n2 at hv2
    subst hv1
    subst hv2
    have B3 := Lib.hid (B2.out.trans (b3.mono B2.out.size))
    have HJ := Lib.hid hJ
    have R1 := Lib.hid hr1
    have R2 := Lib.hid hr2
    clear hJ hr1 hr2 b3
    have hcv := conv_any (c := c) (HS.out.below B3.out)
    obtain ⟨S, hS⟩ : ∃ S, S = strOfNums s := ⟨_, rfl⟩
    rw [← hS] at hcv
    have HSS := Lib.hid hS
    clear hS
    go_wp2_with fail
    clear hcv
    refine (reedCut_any S s w2 HSS.out HB.out (by omega)).mono ?_
    rintro e w3 ⟨v3, v4, rfl, K, hK, hr3, hr4, b4⟩
    have hKJ := hK.unique HJ.out
    subst hKJ
    obtain ⟨a3, c3, hv3⟩ := row_slice hr3
    obtain ⟨a4, c4, hv4⟩ := row_slice hr4
    generalize (ints (cutSt s K).2.1).length = n3 at hv3
    generalize (ints ((cutSt s K).2.2 ++ [(s.length : Int)])).length = n4 at hv4
    subst hv3
    subst hv4
    have B4 := Lib.hid (B3.out.trans (b4.mono B3.out.size))
    have R1b := Lib.hid (R1.out.only (only_of_below b4) (by simp))
    have R2b := Lib.hid (R2.out.only (only_of_below b4) (by simp))
    have R3 := Lib.hid hr3
    have R4 := Lib.hid hr4
    clear hr3 hr4 b4 R1 R2 hK
    go_wp2_with fail
    refine (dec_call (e := e) (fr := fr) (HLX.out _ B4.out) (HS.out.below B4.out) HB.out hcs).mono ?_
    rintro e w4 ⟨rfl, b5⟩
    have B5 := Lib.hid (B4.out.trans (b5.mono B4.out.size))
    have R1c := Lib.hid (R1b.out.only (only_of_below b5) (by simp))
    have R2c := Lib.hid (R2b.out.only (only_of_below b5) (by simp))
    have R3c := Lib.hid (R3.out.only (only_of_below b5) (by simp))
    have R4c := Lib.hid (R4.out.only (only_of_below b5) (by simp))
    clear b5 R1b R2b R3 R4
    have hlz : (cutSt s K).2.1.length ≤ 1000000 ∧ ((cutSt s K).2.2 ++ [(s.length : Int)]).length ≤ 1000000 := by
      have hk := K_le HJ.out
      rw [List.length_append, (cutSt_len s K).1, (cutSt_len s K).2]
      simp
      omega
    have HLZ := Lib.hid hlz
    clear hlz
    go_wp2_with fail
    refine (ints_rows HLZ.out.1 R1c.out R3c.out).mono ?_
    rintro e w5 ⟨rfl, m5, rfl⟩
    go_wp2_with fail
    refine (ints_rows HLZ.out.2 (row_heap (W := w4.drewN m5) rfl R2c.out) (row_heap (W := w4.drewN m5) rfl R4c.out)).mono ?_
    rintro e w6 ⟨rfl, m6, rfl⟩
    have hfst : s.length = 0 → dec s = (0, 0) := fun h => by rw [List.eq_nil_of_length_eq_zero h]; rfl
    have hsnd : 0 < s.length → (cutSt s K).2.1[0]? = some (dec s).1 ∧ ((cutSt s K).2.2 ++ [(s.length : Int)])[1]? = some ((dec s).2 : Int) := fun h => done_first s K HJ.out.1 (fun hn => by rw [hn] at h; simp at h) HJ.out.2
    generalize dec s = d at *
    obtain ⟨d1, d2⟩ := d
    have HFST := Lib.hid hfst
    have HSND := Lib.hid hsnd
    clear hfst hsnd
    have B6 := Lib.hid (below_drewN B5.out (m5 + m6))
    have hup : ∀ (e8 : Ending) (w8 : World), EncIs w8 l e8 w8 → True := fun _ _ _ => trivial
    clear hup
    rcases Nat.eq_zero_or_pos s.length with hs0 | hs0
    focus
      obtain ⟨rfl, rfl⟩ := Prod.mk.inj (HFST.out hs0)
      have hz : ((s.length : Int) == 0) = true := by rw [hs0]; rfl
      have hz2 : ¬ (0 : Int) < (s.length : Int) := by omega
      have HS0 := Lib.hid hs0
      clear hs0
      go_wp2_with fail
    rotate_left
    focus
      obtain ⟨q1, q2⟩ := HSND.out hs0
      obtain ⟨e3, r3⟩ := row_reads R3c.out
      obtain ⟨e4, r4⟩ := row_reads R4c.out
      obtain ⟨b3, o3, rfl, g3⟩ := r3 0 _ q1
      obtain ⟨b4, o4, rfl, g4⟩ := r4 1 _ q2
      have hn3 : (0 : Int) < n3 := by
        rcases Nat.eq_zero_or_pos n3 with h | h
        · rw [h] at e3
          rw [List.getElem?_eq_none (by omega)] at q1
          cases q1
        · omega
      have hn4 : (1 : Int) < n4 := by
        rcases Nat.lt_or_ge 1 n4 with h | h
        · omega
        · rw [List.getElem?_eq_none (by omega)] at q2
          cases q2
      have hz : ((s.length : Int) == 0) = false := by
        rw [beq_eq_false_iff_ne]
        omega
      have hz2 : (0 : Int) < (s.length : Int) := by omega
      rw [Nat.add_zero] at g3
      clear q1 q2 e3 e4 r3 r4 hs0
      go_wp2_with fail
    all_goals
      go_loopw [12, 13, 89] (fun s12 s13 s89 wx => EncLoop w l s12 s13 s89 wx) (fun _ _ i _ => l.length - (intOf i).toNat)
      case atStart => exact ⟨0, Nat.zero_le _, rfl, rfl, rfl, B6.out⟩
      case round =>
        obtain ⟨k, hk, rfl, rfl, rfl, hB⟩ := hrel
        have B7 := Lib.hid hB
        clear hB
        by_cases hlt : k < l.length
        · have hx := List.getElem?_eq_getElem hlt
          obtain ⟨x, hxe⟩ : ∃ x, l[k] = x := ⟨_, rfl⟩
          rw [hxe] at hx
          clear hxe
          have hlt' : (k : Int) < (l.length : Int) := by omega
          obtain ⟨b, off, rfl, hb, hc0⟩ := HI.out k x hx
          have hcx : wr.cell? ⟨b, off + k, none⟩ = some (.int .i64 x) := by rw [B7.out.cell (p := ⟨b, off + k, none⟩) hb]; exact hc0
          have HNX := Lib.hid (encLoop_next hx)
          clear hx hc0
          have HD := fun w => reedDomain_any x w
          have HE := fun w h => reedEncode_any x w h
          have hsz : (strOfNums (encDom (l.take k))).size + (strOfNums (enc x)).size ≤ 1000 := by
            rw [strOfNums_size, strOfNums_size]
            have := enc_len x
            have := encDom_len (l.take k)
            simp only [List.length_take] at this
            omega
          generalize allDom (l.take k) = ad at *
          generalize encDom (l.take k) = ed at *
          rcases Bool.eq_false_or_eq_true (dom x) with hd | hd
          · have HE2 := fun w => HE w hd
            rw [hd] at HD
            have HDm := Lib.hid hd
            clear hd HE
            cases ad
            all_goals
              as_aux_lemma =>
                go_wp2_with (first | (go_at_call 28; refine (HD _).mono ?_; rintro e w' ⟨rfl, rfl⟩) | (go_at_call 29; refine (HE2 _).mono ?_; rintro e w9 ⟨rfl, hB9⟩; have B9 := Lib.hid hB9; clear hB9) | (go_at_call 30; refine (word_any _ _).mono ?_; rintro e w' ⟨rfl, rfl⟩) | (go_at_call 31; refine (reedWord_any _ _).mono ?_; rintro e w' ⟨rfl, rfl⟩))
                obtain ⟨n1, n2, n3⟩ := HNX.out
                rw [HDm.out] at n2 n3
                refine ⟨⟨k + 1, n1, by go_num, ?_, ?_, B7.out.trans (B9.out.mono B7.out.size)⟩, by simp [intOf]; omega⟩
                · rw [n2, strOfNums_app]; rfl
                · rw [n3]; rfl
          · rw [hd] at HD
            have HDm := Lib.hid hd
            clear hd HE
            cases ad
            all_goals
              as_aux_lemma =>
                go_wp2_with (first | (go_at_call 28; refine (HD _).mono ?_; rintro e w' ⟨rfl, rfl⟩) | (go_at_call 30; refine (word_any _ _).mono ?_; rintro e w' ⟨rfl, rfl⟩) | (go_at_call 31; refine (reedWord_any _ _).mono ?_; rintro e w' ⟨rfl, rfl⟩))
                obtain ⟨n1, n2, n3⟩ := HNX.out
                rw [HDm.out] at n2 n3
                refine ⟨⟨k + 1, n1, by go_num, ?_, ?_, B7.out⟩, by simp [intOf]; omega⟩
                · rw [n2]; simp
                · rw [n3]; rfl
        · have hke : k = l.length := by omega
          have hlt' : ¬ ((k : Int) < (l.length : Int)) := by omega
          subst hke
          rw [List.take_length]
          have HEN := Lib.hid (encode_any a' c' l wr (HI.out.below B7.out) (by omega))
          go_wp2_with fail
          refine HEN.out.mono ?_
          rintro e wf ⟨b8, ⟨had, rfl⟩ | ⟨had, v, rfl, hrow⟩⟩
          · have B8 := Lib.hid (B7.out.trans (b8.mono B7.out.size))
            rw [had]
            clear had b8
            go_wp2_with fail
            go_ret
            exact ⟨rfl, B8.out⟩
          · have B8 := Lib.hid (B7.out.trans (b8.mono B7.out.size))
            rw [had]
            obtain ⟨av, cv, hv⟩ := row_slice hrow
            have hlen : (bytesV (encAll l)).length = (encAll l).length := by simp [bytesV]
            rw [hlen] at hv
            subst hv
            have hcv := conv_any (c := cv) (row_bat hrow)
            obtain ⟨T, hT⟩ : ∃ T, T = strOfNums (encAll l) := ⟨_, rfl⟩
            rw [encDom_all l had, ← hT]
            rw [← hT] at hcv
            clear had b8 hrow hlen hT
            go_wp2_with fail
            go_ret
            exact ⟨rfl, B8.out⟩
end Go.Proofs.YtmbgnmnaonjdgaaGreatDoor
