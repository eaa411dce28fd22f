/- PART OF A PROOF over the given program: Rn3. See the last text of the claim for the statement. -/
import Derived.Test.YtmbgnmnaonjdgaaGreatDoorRn2
import Derived.Deep.DeepCutAuto
import Derived.Deep.CutBlock
import Derived.Lib.Hide
namespace Go.Proofs.YtmbgnmnaonjdgaaGreatDoor
open Go Go.RowKit Go.Own Go.Runes Go.Eng

theorem reedEncode_any (x : Int) (w : World) (h : dom x = true) :
    Calls Tryz.prog 29 #[.int .i64 x] w fun e w' => e = .returned (.string (strOfNums (enc x))) ∧ Below w.heap.size w w' := by
  rw [dom_iff] at h
  by_cases h1 : x < 128
  · rw [enc_one h1]; exact encode1 x w (by omega) h1
  · by_cases h2 : x < 2048
    · rw [enc_two h1 h2]; exact encode2 x w (by omega) h2
    · by_cases h3 : x < 65536
      · rw [enc_three h2 h3]; exact encode3 x w (by omega) h3
      · rw [enc_four h3]; exact encode4 x w (by omega) (by omega)

theorem decode_none (a : Option Addr) (c : Nat) (w : World) : Calls Tryz.prog 27 #[.slice a 0 c] w fun e w' => e = .returned (.tuple #[.int .i64 0, .int .i64 0]) ∧ w' = w := by
  go_enter Tryz.func27, Tryz.ntmps27
  go_wp2
  go_ret2
  exact ⟨rfl, rfl⟩

section
variable {P : Program}
theorem wpList_load_run {ops : Array Oper} {rest : List Oper} {o : Oper} {a : Act} {Q : Exit → Act → World → Prop} {w : World} (hgd : o.guard = none) (t : TypeId) (x : Operand) (ho : o.op = .load t x) (v p : Value) (hp : a.eval x = p) (hrun : (Instr.loadAt t p).run P w = .ok v w)
    (h : wpList P ops Q rest (a.put o.dst v) w) : wpList P ops Q (o :: rest) a w :=
  wpList_plain hgd fun K hK => by
    unfold Oper.wp execOp
    simp only [ho, hp, Sem.run_bind, hrun, Sem.run_pure, Result.andThen_ok]
    exact hK _ _ h
theorem wpList_index_run {ops : Array Oper} {rest : List Oper} {o : Oper} {a : Act} {Q : Exit → Act → World → Prop} {w : World} (hgd : o.guard = none) (t : TypeId) (x i : Operand) (ho : o.op = .index t x i) (v p j : Value) (hp : a.eval x = p) (hj : a.eval i = j) (hrun : (Instr.index t p j).run P w = .ok v w)
    (h : wpList P ops Q rest (a.put o.dst v) w) : wpList P ops Q (o :: rest) a w :=
  wpList_plain hgd fun K hK => by
    unfold Oper.wp execOp
    simp only [ho, hp, hj, Sem.run_bind, hrun, Sem.run_pure, Result.andThen_ok]
    exact hK _ _ h
end

theorem Tryz.agg89 : Eng.und Tryz.prog 89 = some (.array 9 88) := by kernel_rfl
theorem Tryz.size89 : Eng.szOf Tryz.prog 89 = some 45 := by kernel_rfl

theorem leads_load (w : World) {e : TypeId} {fr : Nat × Nat} (hL : w.heap[0]? = some (.cells leadsCells.toArray e fr)) : (Instr.loadAt 89 (.pointer (some ⟨0, 0, none⟩))).run Tryz.prog w = .ok (.agg leadsCells.toArray) w := by
  have hrun := run_loadCells_list (P := Tryz.prog) w ⟨0, 0, none⟩ leadsCells (fun j u hj => by
    rw [addr_add, Nat.zero_add]
    simp [World.cell?, hL, hj])
  have hlen : leadsCells.length = 45 := rfl
  rw [hlen] at hrun
  simp [Instr.loadAt, Instr.sureAddr, loadVar, Eng.run_isAgg Tryz.agg89, isAggT, Eng.run_sizeOf Tryz.size89, hrun]

def leadRow (k : Nat) : Value := .agg ((leadsCells.drop (5 * k)).take 5).toArray
theorem leads_index0 (w : World) : (Instr.index 89 (.agg leadsCells.toArray) (.int .i64 (0 : Nat))).run Tryz.prog w = .ok (leadRow 0) w := by kernel_rfl
theorem leads_index1 (w : World) : (Instr.index 89 (.agg leadsCells.toArray) (.int .i64 (1 : Nat))).run Tryz.prog w = .ok (leadRow 1) w := by kernel_rfl
theorem leads_index2 (w : World) : (Instr.index 89 (.agg leadsCells.toArray) (.int .i64 (2 : Nat))).run Tryz.prog w = .ok (leadRow 2) w := by kernel_rfl
theorem leads_index3 (w : World) : (Instr.index 89 (.agg leadsCells.toArray) (.int .i64 (3 : Nat))).run Tryz.prog w = .ok (leadRow 3) w := by kernel_rfl
theorem leads_index4 (w : World) : (Instr.index 89 (.agg leadsCells.toArray) (.int .i64 (4 : Nat))).run Tryz.prog w = .ok (leadRow 4) w := by kernel_rfl
theorem leads_index5 (w : World) : (Instr.index 89 (.agg leadsCells.toArray) (.int .i64 (5 : Nat))).run Tryz.prog w = .ok (leadRow 5) w := by kernel_rfl
theorem leads_index6 (w : World) : (Instr.index 89 (.agg leadsCells.toArray) (.int .i64 (6 : Nat))).run Tryz.prog w = .ok (leadRow 6) w := by kernel_rfl
theorem leads_index7 (w : World) : (Instr.index 89 (.agg leadsCells.toArray) (.int .i64 (7 : Nat))).run Tryz.prog w = .ok (leadRow 7) w := by kernel_rfl
theorem leads_index8 (w : World) : (Instr.index 89 (.agg leadsCells.toArray) (.int .i64 (8 : Nat))).run Tryz.prog w = .ok (leadRow 8) w := by kernel_rfl
theorem leads_index (k : Nat) (hk : k < 9) (w : World) : (Instr.index 89 (.agg leadsCells.toArray) (.int .i64 k)).run Tryz.prog w = .ok (leadRow k) w := by
  match k, hk with
  | 0, _ => exact leads_index0 w
  | 1, _ => exact leads_index1 w
  | 2, _ => exact leads_index2 w
  | 3, _ => exact leads_index3 w
  | 4, _ => exact leads_index4 w
  | 5, _ => exact leads_index5 w
  | 6, _ => exact leads_index6 w
  | 7, _ => exact leads_index7 w
  | 8, _ => exact leads_index8 w

/-- what a row of the table says. -/
theorem lead0 : leadRow 0 = .agg #[.int .i64 0, .int .i64 127, .int .i64 1, .int .i64 0, .int .i64 0] := rfl
def LeadOk (f : Int) (k : Nat) (fa fb W lo hi : Int) : Prop :=
  leadRow k = .agg #[.int .i64 fa, .int .i64 fb, .int .i64 W, .int .i64 lo, .int .i64 hi] ∧ 128 ≤ lo ∧ hi ≤ 191 ∧ 128 ≤ fa ∧
  (fa ≤ f ∧ f ≤ fb → (W = 2 ∧ two f = true ∧ (∀ c, three f c = false) ∧ (∀ c, four f c = false) ∧ lo = 128 ∧ hi = 191) ∨ (W = 3 ∧ two f = false ∧ (∀ c, four f c = false) ∧ ∀ c, three f c = decide (lo ≤ c ∧ c ≤ hi)) ∨ (W = 4 ∧ two f = false ∧ (∀ c, three f c = false) ∧ ∀ c, four f c = decide (lo ≤ c ∧ c ≤ hi)))
theorem lead_ok (f : Int) (k : Nat) (h0 : 0 < k) (hk : k < 9) : ∃ fa fb W lo hi, LeadOk f k fa fb W lo hi ∧ fa = leadsNs.getD (5 * k) 0 ∧ fb = leadsNs.getD (5 * k + 1) 0 := by
  match k, h0, hk with
  | 1, _, _ => exact ⟨194, 223, 2, 128, 191, ⟨rfl, by omega, by omega, by omega, fun h => .inl ⟨rfl, by unfold two; rw [decide_eq_true_eq]; omega, fun c => by unfold three; rw [decide_eq_false_iff_not]; omega, fun c => by unfold four; rw [decide_eq_false_iff_not]; omega, rfl, rfl⟩⟩, rfl, rfl⟩
  | 2, _, _ => exact ⟨224, 224, 3, 160, 191, ⟨rfl, by omega, by omega, by omega, fun h => .inr (.inl ⟨rfl, by unfold two; rw [decide_eq_false_iff_not]; omega, fun c => by unfold four; rw [decide_eq_false_iff_not]; omega, fun c => by unfold three; rw [decide_eq_decide]; omega⟩)⟩, rfl, rfl⟩
  | 3, _, _ => exact ⟨225, 236, 3, 128, 191, ⟨rfl, by omega, by omega, by omega, fun h => .inr (.inl ⟨rfl, by unfold two; rw [decide_eq_false_iff_not]; omega, fun c => by unfold four; rw [decide_eq_false_iff_not]; omega, fun c => by unfold three; rw [decide_eq_decide]; omega⟩)⟩, rfl, rfl⟩
  | 4, _, _ => exact ⟨237, 237, 3, 128, 159, ⟨rfl, by omega, by omega, by omega, fun h => .inr (.inl ⟨rfl, by unfold two; rw [decide_eq_false_iff_not]; omega, fun c => by unfold four; rw [decide_eq_false_iff_not]; omega, fun c => by unfold three; rw [decide_eq_decide]; omega⟩)⟩, rfl, rfl⟩
  | 5, _, _ => exact ⟨238, 239, 3, 128, 191, ⟨rfl, by omega, by omega, by omega, fun h => .inr (.inl ⟨rfl, by unfold two; rw [decide_eq_false_iff_not]; omega, fun c => by unfold four; rw [decide_eq_false_iff_not]; omega, fun c => by unfold three; rw [decide_eq_decide]; omega⟩)⟩, rfl, rfl⟩
  | 6, _, _ => exact ⟨240, 240, 4, 144, 191, ⟨rfl, by omega, by omega, by omega, fun h => .inr (.inr ⟨rfl, by unfold two; rw [decide_eq_false_iff_not]; omega, fun c => by unfold three; rw [decide_eq_false_iff_not]; omega, fun c => by unfold four; rw [decide_eq_decide]; omega⟩)⟩, rfl, rfl⟩
  | 7, _, _ => exact ⟨241, 243, 4, 128, 191, ⟨rfl, by omega, by omega, by omega, fun h => .inr (.inr ⟨rfl, by unfold two; rw [decide_eq_false_iff_not]; omega, fun c => by unfold three; rw [decide_eq_false_iff_not]; omega, fun c => by unfold four; rw [decide_eq_decide]; omega⟩)⟩, rfl, rfl⟩
  | 8, _, _ => exact ⟨244, 244, 4, 128, 143, ⟨rfl, by omega, by omega, by omega, fun h => .inr (.inr ⟨rfl, by unfold two; rw [decide_eq_false_iff_not]; omega, fun c => by unfold three; rw [decide_eq_false_iff_not]; omega, fun c => by unfold four; rw [decide_eq_decide]; omega⟩)⟩, rfl, rfl⟩

theorem no_lead {f : Int} (h : ∀ j, j < 9 → ¬ (leadsNs.getD (5 * j) 0 ≤ f ∧ f ≤ leadsNs.getD (5 * j + 1) 0)) (h0 : 0 ≤ f) (t : List Int) : dec (f :: t) = (65533, 1) := by
  have a0 : ¬ ((0 : Int) ≤ f ∧ f ≤ 127) := h 0 (by omega)
  have a1 : ¬ ((194 : Int) ≤ f ∧ f ≤ 223) := h 1 (by omega)
  have a2 : ¬ ((224 : Int) ≤ f ∧ f ≤ 224) := h 2 (by omega)
  have a3 : ¬ ((225 : Int) ≤ f ∧ f ≤ 236) := h 3 (by omega)
  have a4 : ¬ ((237 : Int) ≤ f ∧ f ≤ 237) := h 4 (by omega)
  have a5 : ¬ ((238 : Int) ≤ f ∧ f ≤ 239) := h 5 (by omega)
  have a6 : ¬ ((240 : Int) ≤ f ∧ f ≤ 240) := h 6 (by omega)
  have a7 : ¬ ((241 : Int) ≤ f ∧ f ≤ 243) := h 7 (by omega)
  have a8 : ¬ ((244 : Int) ≤ f ∧ f ≤ 244) := h 8 (by omega)
  clear h
  refine dec_lead0 (by omega) ?_ (fun c => ?_) (fun c => ?_) t
  · unfold two; rw [decide_eq_false_iff_not]; omega
  · unfold three; rw [decide_eq_false_iff_not]; omega
  · unfold four; rw [decide_eq_false_iff_not]; omega

theorem below_drewN {B : Nat} {a w : World} (h : Below B a w) (m : Nat) : Below B a (w.drewN m) := ⟨h.os, h.tape, h.output, h.size, h.block⟩
theorem World.cell?_alloc_of_lt' {w : World} {o : Obj} {a : Addr} (h : a.block < w.heap.size) : (w.alloc o).cell? a = w.cell? a := World.cell?_of_block (Below.heap_alloc w o a.block h)

theorem old_cell {w wr : World} {b off : Nat} {v : Value} (hB : Below w.heap.size w wr) (hb : b < w.heap.size) (h : w.cell? ⟨b, off, none⟩ = some v) (o : Obj) : (wr.alloc o).cell? ⟨b, off, none⟩ = some v := by
  have : b < wr.heap.size := Nat.lt_of_lt_of_le hb hB.size
  rw [World.cell?_alloc_of_lt' (a := ⟨b, off, none⟩) this, hB.cell (p := ⟨b, off, none⟩) hb]
  exact h
theorem u8_and192_all : ∀ n : Nat, n < 64 → bits .and .u8 ((128 + n : Nat) : Int) 192 = 128 := by decide +kernel
theorem u8_and192 (c : Int) (h : 128 ≤ c ∧ c ≤ 191) : bits .and .u8 c 192 = 128 := by
  obtain ⟨n, hn⟩ : ∃ n : Nat, c = ((128 + n : Nat) : Int) := ⟨(c - 128).toNat, by omega⟩
  rw [hn]; exact u8_and192_all n (by omega)
theorem u8_not192_all : ∀ n : Nat, n < 256 → ¬ (128 ≤ n ∧ n ≤ 191) → (bits .and .u8 (n : Int) 192 == 128) = false := by decide +kernel
theorem u8_not192 (c : Int) (h : 0 ≤ c ∧ c ≤ 255) (h2 : ¬ (128 ≤ c ∧ c ≤ 191)) : (bits .and .u8 c 192 == 128) = false := by
  obtain ⟨n, rfl⟩ : ∃ n : Nat, c = n := ⟨c.toNat, by omega⟩
  exact u8_not192_all n (by omega) (by omega)
theorem cont_no {c : Int} (h : ¬ (128 ≤ c ∧ c ≤ 191)) : cont c = false := by unfold cont; exact decide_eq_false h
theorem cont_yes {c : Int} (h : 128 ≤ c ∧ c ≤ 191) : cont c = true := by unfold cont; exact decide_eq_true h
theorem odd3 {f c d : Int} (h : three f c = false ∨ cont d = false) : (if (three f c && cont d) = true then (dec3 f c d, 3) else ((65533 : Int), 1)) = (65533, 1) := by
  rcases h with h | h <;> simp [h]
theorem odd4 {f c d e : Int} (h : four f c = false ∨ cont d = false ∨ cont e = false) : (if (four f c && cont d && cont e) = true then (dec4 f c d e, 4) else ((65533 : Int), 1)) = (65533, 1) := by
  rcases h with h | h | h <;> simp [h]
theorem ok2 {f c : Int} (h : 128 ≤ c ∧ c ≤ 191) : (if cont c = true then (dec2 f c, 2) else ((65533 : Int), 1)) = (dec2 f c, 2) := by simp [cont_yes h]
theorem ok3 {f c d : Int} (h : three f c = true) (h2 : 128 ≤ d ∧ d ≤ 191) : (if (three f c && cont d) = true then (dec3 f c d, 3) else ((65533 : Int), 1)) = (dec3 f c d, 3) := by simp [h, cont_yes h2]
theorem ok4 {f c d e : Int} (h : four f c = true) (h2 : 128 ≤ d ∧ d ≤ 191) (h3 : 128 ≤ e ∧ e ≤ 191) : (if (four f c && cont d && cont e) = true then (dec4 f c d e, 4) else ((65533 : Int), 1)) = (dec4 f c d e, 4) := by simp [h, cont_yes h2, cont_yes h3]
theorem odd2 {f c1 : Int} (h : ¬ (128 ≤ c1 ∧ c1 ≤ 191)) : (if cont c1 = true then (dec2 f c1, 2) else ((65533 : Int), 1)) = (65533, 1) := by
  have : cont c1 = false := by unfold cont; rw [decide_eq_false_iff_not]; exact h
  rw [this]; rfl

theorem ret_pair {a b : Int} {n : Nat} {p : Int × Nat} (h : p = (a, n)) (hb : b = (n : Nat)) : Ending.returned (.tuple #[.int .i64 a, .int .i64 b]) = Ending.returned (.tuple #[.int .i64 p.1, .int .i64 (p.2 : Nat)]) := by
  subst h; subst hb; rfl

set_option maxRecDepth 100000 in
set_option maxHeartbeats 4000000 in
theorem decode_any (b off n c : Nat) (f : Int) (t : List Int) (w : World) {e : TypeId} {fr : Nat × Nat} (hL : w.heap[0]? = some (.cells leadsCells.toArray e fr)) (hn : n = t.length + 1) (hnc : n ≤ c) (hb : b < w.heap.size)
    (h0 : w.cell? ⟨b, off, none⟩ = some (.int .u8 f)) (ht : ∀ (j : Nat) x, t[j]? = some x → w.cell? ⟨b, off + 1 + j, none⟩ = some (.int .u8 x)) (hf : byte f) (hby : ∀ x ∈ t, byte x) :
    Calls Tryz.prog 27 #[.slice (some ⟨b, off, none⟩) n c] w fun e w' => e = .returned (.tuple #[.int .i64 (dec (f :: t)).1, .int .i64 (dec (f :: t)).2]) ∧ Below w.heap.size w w' := by
  have hld := leads_load w hL
  have hix := leads_index
  obtain ⟨A, hA⟩ : ∃ A, A = Value.agg leadsCells.toArray := ⟨_, rfl⟩
  rw [← hA] at hld hix
  have HLd := Lib.hid hld
  have HT := Lib.hid ht
  have HB := Lib.hid hby
  have HIx := Lib.hid hix
  have HN := Lib.hid hn
  have hn0 : 0 < n := by omega
  obtain ⟨hf0, hf1⟩ := hf
  clear hA hld hL hix ht hby hn
  go_enter Tryz.func27, Tryz.ntmps27
  go_upto_region 4 with fail
  refine wp_region_lit ?_
  refine wpList_load_run rfl 89 (.global 0) rfl A _ rfl HLd.out ?_
  go_wp2_with fail
  go_loopw [18] (fun i wr => ∃ k : Nat, k ≤ 9 ∧ i = .int .i64 k ∧ Below w.heap.size w wr ∧ Hid (∀ j, j < k → ¬ (leadsNs.getD (5 * j) 0 ≤ f ∧ f ≤ leadsNs.getD (5 * j + 1) 0))) (fun i _ => 9 - (intOf i).toNat)
  case atStart => exact ⟨0, Nat.zero_le _, rfl, Below.refl _ _, fun j hj => by omega⟩
  case round =>
    obtain ⟨k, hk, rfl, hB, hno⟩ := hrel
    by_cases hk9 : (k : Int) < 9
    · have hixk := HIx.out k (by omega) wr
      rcases Nat.eq_zero_or_pos k with rfl | hk0
      · rw [lead0] at hixk
        have hix0 : (Instr.index 89 A (.int .i64 0)).run Tryz.prog wr = .ok (.agg #[.int .i64 0, .int .i64 127, .int .i64 1, .int .i64 0, .int .i64 0]) wr := hixk
        clear hixk
        by_cases hm : f ≤ 127
        · go_wp2_with fail
          go_ret2
          exact ⟨ret_pair (dec_lead1 hm t) rfl, hB.alloc hB.size _⟩
        · go_wp2_with fail
          refine ⟨⟨1, by omega, by go_num, hB.alloc hB.size _, fun j hj => ?_⟩, by simp [intOf]⟩
          have : j = 0 := by omega
          subst this
          show ¬ ((0 : Int) ≤ f ∧ f ≤ 127)
          omega
      · obtain ⟨fa, fb, W, lo, hi, ⟨hrow, hlo, hhi, hfr, hcase⟩, hfre, htoe⟩ := lead_ok f k hk0 (by omega)
        rw [hrow] at hixk
        have HRow := Lib.hid hrow
        have HC := Lib.hid hcase
        have HE := Lib.hid hfre
        have HE2 := Lib.hid htoe
        clear hrow hcase hfre htoe
        by_cases hm1 : f < fa
        · go_wp2_with fail
          refine ⟨⟨k + 1, by omega, by go_num, hB.alloc hB.size _, fun j hj => ?_⟩, by simp [intOf]; omega⟩
          rcases Nat.lt_or_ge j k with h' | h'
          · exact hno.out j h'
          · have : j = k := by omega
            subst this
            rw [← HE.out, ← HE2.out]
            omega
        · by_cases hm2 : fb < f
          · go_wp2_with fail
            refine ⟨⟨k + 1, by omega, by go_num, hB.alloc hB.size _, fun j hj => ?_⟩, by simp [intOf]; omega⟩
            rcases Nat.lt_or_ge j k with h' | h'
            · exact hno.out j h'
            · have : j = k := by omega
              subst this
              rw [← HE.out, ← HE2.out]
              omega
          · have hW : W = 2 ∨ W = 3 ∨ W = 4 := by
              rcases HC.out ⟨by omega, by omega⟩ with h | h | h
              · exact .inl h.1
              · exact .inr (.inl h.1)
              · exact .inr (.inr h.1)
            have hsz := hB.size
            have HX := hB
            rcases hW with rfl | rfl | rfl
            · obtain ⟨-, h2, h3, h4, hl1, hl2⟩ | ⟨h, -⟩ | ⟨h, -⟩ := HC.out ⟨by omega, by omega⟩
              · have HD := Lib.hid (dec_lead2 (by omega) h2 h3 h4 t)
                have HL1 := Lib.hid hl1
                have HL2 := Lib.hid hl2
                clear HC h2 h3 h4 hl1 hl2
                rcases t with _ | ⟨c1, t1⟩
                · as_aux_lemma =>
                    have hn1 : (n : Int) < 2 := by have := HN.out; simp at this; omega
                    have hd1 : decide ((n : Int) < 2) = true := decide_eq_true hn1
                    go_wp2_with fail
                    go_quiet (fail)
                    go_wp2_with fail
                    go_ret2
                    exact ⟨ret_pair (HD.out) rfl, below_drewN (HX.alloc hsz _) _⟩
                · have hn1 : ¬ (n : Int) < 2 := by have := HN.out; simp at this; omega
                  have hn2 : (2 : Int) ≤ (c : Int) := by omega
                  have hd1 : decide ((n : Int) < 2) = false := decide_eq_false hn1
                  have hn3 : (1 : Int) < (n : Int) := by omega
                  have g1 : ∀ o : Obj, (wr.alloc o).cell? ⟨b, off + 1, none⟩ = some (.int .u8 c1) := old_cell HX hb (HT.out 0 c1 rfl)
                  obtain ⟨p1, q1⟩ := HB.out c1 (by simp)
                  have e1 : IntKind.i64.wrap c1 = c1 := IntWalk.i64_in _ (by omega)
                  by_cases hc1 : c1 < lo
                  · as_aux_lemma =>
                      have hd2 : decide (c1 < lo) = true := decide_eq_true hc1
                      go_wp2_with fail
                      go_quiet (fail)
                      clear e1
                      go_wp2_with fail
                      go_ret2
                      exact ⟨ret_pair (by rw [HD.out]; exact odd2 (by have := HL1.out; have := HL2.out; omega)) rfl, below_drewN (HX.alloc hsz _) _⟩
                  · have hd2 : decide (c1 < lo) = false := decide_eq_false hc1
                    by_cases hc2 : hi < c1
                    · as_aux_lemma =>
                        have hd3 : decide (hi < c1) = true := decide_eq_true hc2
                        go_wp2_with fail
                        go_quiet (fail)
                        clear e1
                        go_wp2_with fail
                        go_ret2
                        exact ⟨ret_pair (by rw [HD.out]; exact odd2 (by have := HL1.out; have := HL2.out; omega)) rfl, below_drewN (HX.alloc hsz _) _⟩
                    · as_aux_lemma =>
                        have hd3 : decide (hi < c1) = false := decide_eq_false hc2
                        go_wp2_with fail
                        go_quiet (fail)
                        clear e1 hd1 hd2 hd3
                        have z1 : bits .and .i64 f 31 = f % 32 := i64_and31 (by omega) (by omega)
                        have z2 : bits .and .u8 c1 63 = c1 % 64 := u8_and63 c1 (by omega) (by omega)
                        have z3 : bits .and .u8 c1 192 = 128 := u8_and192 c1 (by have := HL1.out; have := HL2.out; omega)
                        have z4 : bits .or .i64 (f % 32 * 64) (c1 % 64) = dec2 f c1 := i64_or6 (by omega) (by omega) (by omega) (by omega) (by omega)
                        go_wp2_with fail
                        refine wp_loop_rounds 2 ?_
                        rw [rounds_succ]
                        go_wp2_with fail
                        rw [rounds_succ]
                        go_wp2_with fail
                        go_quiet (fail)
                        go_wp2_with fail
                        go_ret2
                        exact ⟨ret_pair (by rw [HD.out]; exact ok2 (by have := HL1.out; have := HL2.out; omega)) rfl, below_drewN (below_drewN (HX.alloc hsz _) _) _⟩
              · omega
              · omega
            · obtain ⟨h, -⟩ | ⟨-, h2, h4, h3⟩ | ⟨h, -⟩ := HC.out ⟨by omega, by omega⟩
              · omega
              · have HD := Lib.hid (dec_lead3 (by omega) h2 h4 t)
                have H3 := Lib.hid h3
                clear HC h2 h3 h4
                rcases t with _ | ⟨c1, t1⟩
                · as_aux_lemma =>
                    have hn1 : (n : Int) < 3 := by have := HN.out; simp at this; omega
                    have hd1 : decide ((n : Int) < 3) = true := decide_eq_true hn1
                    go_wp2_with fail
                    go_quiet (fail)
                    go_wp2_with fail
                    go_ret2
                    exact ⟨ret_pair (HD.out) rfl, below_drewN (HX.alloc hsz _) _⟩
                · rcases t1 with _ | ⟨c2, t2⟩
                  · as_aux_lemma =>
                      have hn1 : (n : Int) < 3 := by have := HN.out; simp at this; omega
                      have hd1 : decide ((n : Int) < 3) = true := decide_eq_true hn1
                      go_wp2_with fail
                      go_quiet (fail)
                      go_wp2_with fail
                      go_ret2
                      exact ⟨ret_pair (HD.out) rfl, below_drewN (HX.alloc hsz _) _⟩
                  · have hn1 : ¬ (n : Int) < 3 := by have := HN.out; simp at this; omega
                    have hn2 : (3 : Int) ≤ (c : Int) := by omega
                    have hd1 : decide ((n : Int) < 3) = false := decide_eq_false hn1
                    have hn3 : (1 : Int) < (n : Int) := by omega
                    have g1 : ∀ o : Obj, (wr.alloc o).cell? ⟨b, off + 1, none⟩ = some (.int .u8 c1) := old_cell HX hb (HT.out 0 c1 rfl)
                    obtain ⟨p1, q1⟩ := HB.out c1 (by simp)
                    have g2 : ∀ o : Obj, (wr.alloc o).cell? ⟨b, off + 1 + 1, none⟩ = some (.int .u8 c2) := old_cell HX hb (HT.out 1 c2 rfl)
                    obtain ⟨p2, q2⟩ := HB.out c2 (by simp)
                    have e1 : IntKind.i64.wrap c1 = c1 := IntWalk.i64_in _ (by omega)
                    by_cases hc1 : c1 < lo
                    · as_aux_lemma =>
                        have hd2 : decide (c1 < lo) = true := decide_eq_true hc1
                        go_wp2_with fail
                        go_quiet (fail)
                        clear e1
                        go_wp2_with fail
                        go_ret2
                        exact ⟨ret_pair (by rw [HD.out]; exact odd3 (.inl (by rw [H3.out, decide_eq_false_iff_not]; omega))) rfl, below_drewN (HX.alloc hsz _) _⟩
                    · have hd2 : decide (c1 < lo) = false := decide_eq_false hc1
                      by_cases hc2 : hi < c1
                      · as_aux_lemma =>
                          have hd3 : decide (hi < c1) = true := decide_eq_true hc2
                          go_wp2_with fail
                          go_quiet (fail)
                          clear e1
                          go_wp2_with fail
                          go_ret2
                          exact ⟨ret_pair (by rw [HD.out]; exact odd3 (.inl (by rw [H3.out, decide_eq_false_iff_not]; omega))) rfl, below_drewN (HX.alloc hsz _) _⟩
                      · as_aux_lemma =>
                          have hd3 : decide (hi < c1) = false := decide_eq_false hc2
                          go_wp2_with fail
                          go_quiet (fail)
                          clear e1 hd1 hd2 hd3
                          have z1 : bits .and .i64 f 15 = f % 16 := i64_and15 (by omega) (by omega)
                          have z2 : bits .and .u8 c1 63 = c1 % 64 := u8_and63 c1 (by omega) (by omega)
                          have z3 : bits .and .u8 c1 192 = 128 := u8_and192 c1 (by omega)
                          obtain ⟨r1, hr1⟩ : ∃ r1, f % 16 * 64 + c1 % 64 = r1 := ⟨_, rfl⟩
                          have r1a : 0 ≤ r1 := by omega
                          have r1b : r1 < 1024 := by omega
                          have HR1 := Lib.hid hr1
                          have z4 : bits .or .i64 (f % 16 * 64) (c1 % 64) = r1 := by rw [i64_or6 (by omega) (by omega) (by omega) (by omega) (by omega)]; exact hr1
                          clear hr1
                          go_wp2_with fail
                          refine wp_loop_rounds 3 ?_
                          rw [rounds_succ]
                          have y2 : bits .and .u8 c2 63 = c2 % 64 := u8_and63 c2 (by omega) (by omega)
                          have x2 : bits .or .i64 (r1 * 64) (c2 % 64) = dec3 f c1 c2 := by rw [i64_or6 (by omega) (by omega) (by omega) (by omega) (by omega)]; unfold dec3; have := HR1.out; omega
                          go_wp2_with fail
                          rw [rounds_succ]
                          by_cases hk2 : 128 ≤ c2 ∧ c2 ≤ 191
                          · have w2 : bits .and .u8 c2 192 = 128 := u8_and192 c2 hk2
                            obtain ⟨hka2, hkb2⟩ := hk2
                            have hk2 : 128 ≤ c2 ∧ c2 ≤ 191 := ⟨hka2, hkb2⟩
                            go_wp2_with fail
                            rw [rounds_succ]
                            go_wp2_with fail
                            go_quiet (fail)
                            go_wp2_with fail
                            go_ret2
                            exact ⟨ret_pair (by rw [HD.out]; exact ok3 (by rw [H3.out, decide_eq_true_eq]; omega) hk2) rfl, below_drewN (below_drewN (HX.alloc hsz _) _) _⟩
                          · have w2 : (bits .and .u8 c2 192 == 128) = false := u8_not192 c2 ⟨by omega, by omega⟩ hk2
                            have v2 : (bits .and .u8 c2 192 != 128) = true := by rw [bne, w2]; rfl
                            have HK := Lib.hid hk2
                            clear hk2
                            go_wp2_with fail
                            go_ret2
                            exact ⟨ret_pair (by rw [HD.out]; exact odd3 (.inr (cont_no HK.out))) rfl, below_drewN (HX.alloc hsz _) _⟩
              · omega
            · obtain ⟨h, -⟩ | ⟨h, -⟩ | ⟨-, h2, h3, h4⟩ := HC.out ⟨by omega, by omega⟩
              · omega
              · omega
              · have HD := Lib.hid (dec_lead4 (by omega) h2 h3 t)
                have H3 := Lib.hid h4
                clear HC h2 h3 h4
                rcases t with _ | ⟨c1, t1⟩
                · as_aux_lemma =>
                    have hn1 : (n : Int) < 4 := by have := HN.out; simp at this; omega
                    have hd1 : decide ((n : Int) < 4) = true := decide_eq_true hn1
                    go_wp2_with fail
                    go_quiet (fail)
                    go_wp2_with fail
                    go_ret2
                    exact ⟨ret_pair (HD.out) rfl, below_drewN (HX.alloc hsz _) _⟩
                · rcases t1 with _ | ⟨c2, t2⟩
                  · as_aux_lemma =>
                      have hn1 : (n : Int) < 4 := by have := HN.out; simp at this; omega
                      have hd1 : decide ((n : Int) < 4) = true := decide_eq_true hn1
                      go_wp2_with fail
                      go_quiet (fail)
                      go_wp2_with fail
                      go_ret2
                      exact ⟨ret_pair (HD.out) rfl, below_drewN (HX.alloc hsz _) _⟩
                  · rcases t2 with _ | ⟨c3, t3⟩
                    · as_aux_lemma =>
                        have hn1 : (n : Int) < 4 := by have := HN.out; simp at this; omega
                        have hd1 : decide ((n : Int) < 4) = true := decide_eq_true hn1
                        go_wp2_with fail
                        go_quiet (fail)
                        go_wp2_with fail
                        go_ret2
                        exact ⟨ret_pair (HD.out) rfl, below_drewN (HX.alloc hsz _) _⟩
                    · have hn1 : ¬ (n : Int) < 4 := by have := HN.out; simp at this; omega
                      have hn2 : (4 : Int) ≤ (c : Int) := by omega
                      have hd1 : decide ((n : Int) < 4) = false := decide_eq_false hn1
                      have hn3 : (1 : Int) < (n : Int) := by omega
                      have g1 : ∀ o : Obj, (wr.alloc o).cell? ⟨b, off + 1, none⟩ = some (.int .u8 c1) := old_cell HX hb (HT.out 0 c1 rfl)
                      obtain ⟨p1, q1⟩ := HB.out c1 (by simp)
                      have g2 : ∀ o : Obj, (wr.alloc o).cell? ⟨b, off + 1 + 1, none⟩ = some (.int .u8 c2) := old_cell HX hb (HT.out 1 c2 rfl)
                      obtain ⟨p2, q2⟩ := HB.out c2 (by simp)
                      have g3 : ∀ o : Obj, (wr.alloc o).cell? ⟨b, off + 1 + 2, none⟩ = some (.int .u8 c3) := old_cell HX hb (HT.out 2 c3 rfl)
                      obtain ⟨p3, q3⟩ := HB.out c3 (by simp)
                      have e1 : IntKind.i64.wrap c1 = c1 := IntWalk.i64_in _ (by omega)
                      by_cases hc1 : c1 < lo
                      · as_aux_lemma =>
                          have hd2 : decide (c1 < lo) = true := decide_eq_true hc1
                          go_wp2_with fail
                          go_quiet (fail)
                          clear e1
                          go_wp2_with fail
                          go_ret2
                          exact ⟨ret_pair (by rw [HD.out]; exact odd4 (.inl (by rw [H3.out, decide_eq_false_iff_not]; omega))) rfl, below_drewN (HX.alloc hsz _) _⟩
                      · have hd2 : decide (c1 < lo) = false := decide_eq_false hc1
                        by_cases hc2 : hi < c1
                        · as_aux_lemma =>
                            have hd3 : decide (hi < c1) = true := decide_eq_true hc2
                            go_wp2_with fail
                            go_quiet (fail)
                            clear e1
                            go_wp2_with fail
                            go_ret2
                            exact ⟨ret_pair (by rw [HD.out]; exact odd4 (.inl (by rw [H3.out, decide_eq_false_iff_not]; omega))) rfl, below_drewN (HX.alloc hsz _) _⟩
                        · as_aux_lemma =>
                            have hd3 : decide (hi < c1) = false := decide_eq_false hc2
                            go_wp2_with fail
                            go_quiet (fail)
                            clear e1 hd1 hd2 hd3
                            have z1 : bits .and .i64 f 7 = f % 8 := i64_and7 (by omega) (by omega)
                            have z2 : bits .and .u8 c1 63 = c1 % 64 := u8_and63 c1 (by omega) (by omega)
                            have z3 : bits .and .u8 c1 192 = 128 := u8_and192 c1 (by omega)
                            obtain ⟨r1, hr1⟩ : ∃ r1, f % 8 * 64 + c1 % 64 = r1 := ⟨_, rfl⟩
                            have r1a : 0 ≤ r1 := by omega
                            have r1b : r1 < 1024 := by omega
                            have HR1 := Lib.hid hr1
                            have z4 : bits .or .i64 (f % 8 * 64) (c1 % 64) = r1 := by rw [i64_or6 (by omega) (by omega) (by omega) (by omega) (by omega)]; exact hr1
                            clear hr1
                            go_wp2_with fail
                            refine wp_loop_rounds 4 ?_
                            rw [rounds_succ]
                            have y2 : bits .and .u8 c2 63 = c2 % 64 := u8_and63 c2 (by omega) (by omega)
                            obtain ⟨r2, hr2⟩ : ∃ r2, r1 * 64 + c2 % 64 = r2 := ⟨_, rfl⟩
                            have r2a : 0 ≤ r2 := by omega
                            have r2b : r2 < 65536 := by omega
                            have HR2 := Lib.hid hr2
                            have x2 : bits .or .i64 (r1 * 64) (c2 % 64) = r2 := by rw [i64_or6 (by omega) (by omega) (by omega) (by omega) (by omega)]; exact hr2
                            clear hr2
                            go_wp2_with fail
                            rw [rounds_succ]
                            by_cases hk2 : 128 ≤ c2 ∧ c2 ≤ 191
                            · have w2 : bits .and .u8 c2 192 = 128 := u8_and192 c2 hk2
                              obtain ⟨hka2, hkb2⟩ := hk2
                              have hk2 : 128 ≤ c2 ∧ c2 ≤ 191 := ⟨hka2, hkb2⟩
                              have y3 : bits .and .u8 c3 63 = c3 % 64 := u8_and63 c3 (by omega) (by omega)
                              have x3 : bits .or .i64 (r2 * 64) (c3 % 64) = dec4 f c1 c2 c3 := by rw [i64_or6 (by omega) (by omega) (by omega) (by omega) (by omega)]; unfold dec4; have := HR1.out; have := HR2.out; omega
                              go_wp2_with fail
                              rw [rounds_succ]
                              by_cases hk3 : 128 ≤ c3 ∧ c3 ≤ 191
                              · have w3 : bits .and .u8 c3 192 = 128 := u8_and192 c3 hk3
                                obtain ⟨hka3, hkb3⟩ := hk3
                                have hk3 : 128 ≤ c3 ∧ c3 ≤ 191 := ⟨hka3, hkb3⟩
                                go_wp2_with fail
                                rw [rounds_succ]
                                go_wp2_with fail
                                go_quiet (fail)
                                go_wp2_with fail
                                go_ret2
                                exact ⟨ret_pair (by rw [HD.out]; exact ok4 (by rw [H3.out, decide_eq_true_eq]; omega) hk2 hk3) rfl, below_drewN (below_drewN (HX.alloc hsz _) _) _⟩
                              · have w3 : (bits .and .u8 c3 192 == 128) = false := u8_not192 c3 ⟨by omega, by omega⟩ hk3
                                have v3 : (bits .and .u8 c3 192 != 128) = true := by rw [bne, w3]; rfl
                                have HK := Lib.hid hk3
                                clear hk3
                                go_wp2_with fail
                                go_ret2
                                exact ⟨ret_pair (by rw [HD.out]; exact odd4 (.inr (.inr (cont_no HK.out)))) rfl, below_drewN (HX.alloc hsz _) _⟩
                            · have w2 : (bits .and .u8 c2 192 == 128) = false := u8_not192 c2 ⟨by omega, by omega⟩ hk2
                              have v2 : (bits .and .u8 c2 192 != 128) = true := by rw [bne, w2]; rfl
                              have HK := Lib.hid hk2
                              clear hk2
                              go_wp2_with fail
                              go_ret2
                              exact ⟨ret_pair (by rw [HD.out]; exact odd4 (.inr (.inl (cont_no HK.out)))) rfl, below_drewN (HX.alloc hsz _) _⟩
    · have hkk : k = 9 := by omega
      subst hkk
      go_wp2_with fail
      go_ret2
      exact ⟨ret_pair (no_lead hno.out hf0 t) rfl, hB⟩
end Go.Proofs.YtmbgnmnaonjdgaaGreatDoor
