/- PART OF A PROOF over the given program: Lk5. See the last text of the claim for the statement. -/
import Derived.Test.YtmbgnmnaonjdgaaGreatDoorLk4
namespace Go.Proofs.YtmbgnmnaonjdgaaGreatDoor
open Go Go.RowKit

set_option maxHeartbeats 1000000 in
theorem holds_any (x y : Int) (w : World) : Calls Tryz.prog 10 #[.int .i64 x, .int .i64 y] w fun e w' => e = .returned (.bool (bits .andNot .i64 x y == 0)) ∧ w' = w := by
  go_enter Tryz.func10, Tryz.ntmps10
  go_wp2
  go_ret
  exact ⟨rfl, rfl⟩

theorem at_in' (zs : List Int) (a : Option Addr) (c p : Nat) (w : World) (h : TextAt w (.slice a zs.length c) zs) (hp : p ≤ zs.length) (hm : zs.length ≤ 30) :
    Calls Tryz.prog 8 #[.slice a zs.length c, .int .i64 p] w fun e w' => e = .returned (.int .i64 (reedSum zs p)) ∧ Below w.heap.size w w' := by
  rw [← at_reed]; exact at_in zs a c p w h hp hm

theorem int_eq {k : IntKind} {a b : Int} (h : a = b) : Value.int k a = Value.int k b := by rw [h]

abbrev litO : Obj := .cells #[.int .i64 2, .int .i64 1, .int .i64 8, .int .i64 4] 3
theorem lit_cell {w wr : World} (hB : Below (w.heap.size + 1) (w.alloc litO) wr) (j : Nat) {v : Value} (h : (#[.int .i64 2, .int .i64 1, .int .i64 8, .int .i64 4] : Array Value)[j]? = some v) : wr.cell? ⟨w.heap.size, j, none⟩ = some v := by
  rw [hB.cell (p := ⟨w.heap.size, j, none⟩) (Nat.lt_succ_self _), World.cell?_alloc_at _ _ _ _ rfl]
  exact h

def half (x : Int) : Nat → Int
  | 0 => x
  | 1 => x / 2
  | 2 => x / 4
  | _ => x / 8

def topFlip (x : Int) : Nat → Int
  | 0 => bits .andNot .i64 x 15
  | k + 1 => if (bits .and .i64 (half x k) 1 == 1) = true then bits .or .i64 (topFlip x k) (flipBit k).2 else topFlip x k

set_option maxRecDepth 100000 in
set_option maxHeartbeats 16000000 in
theorem top_small (a : Option Addr) (c : Nat) (zs : List Int) (x : Int) (w : World) (hc : zs.length ≤ c) (hs : zs.length ≤ 30) (ht : TextAt w (.slice a zs.length c) zs)
    (hawake : Calls Tryz.prog 7 #[] w fun en w1 => en = .returned (.bool true) ∧ Below w.heap.size w w1) (hlaw : flipAcc x 6 = topFlip x 4) :
    Calls Tryz.prog 3 #[.slice a zs.length c, .int .i64 x] w fun e w' => e = .returned (.bool true) ∧ Below w.heap.size w w' := by
  have hs1 : ¬ (30 < (zs.length : Int)) := by omega
  go_enter Tryz.func3, Tryz.ntmps3
  go_wp2_with fail
  refine hawake.mono ?_
  rintro e w1 ⟨rfl, b1⟩
  clear hawake
  go_wp2_with fail
  all_goals go_loopw [6] (fun i wr => ∃ k : Nat, k ≤ zs.length + 3 ∧ i = .int .i64 ((k : Int) - 1) ∧ Below w.heap.size w wr) (fun i _ => zs.length + 3 - (intOf i + 1).toNat)
  case atStart => exact ⟨0, by omega, rfl, b1⟩
  case round =>
    obtain ⟨k, hk, rfl, b2⟩ := hrel
    have hT := ht.below b2
    have hk4 : k = 0 ∨ (∃ p, k = p + 1 ∧ p ≤ zs.length) ∨ k = zs.length + 2 ∨ k = zs.length + 3 := by
      rcases k with _ | p
      · exact .inl rfl
      · by_cases h : p ≤ zs.length
        · exact .inr (.inl ⟨p, rfl, h⟩)
        · omega
    rcases hk4 with rfl | ⟨p, rfl, hp⟩ | rfl | rfl
    · have e0 : ((0 : Nat) : Int) - 1 = -1 := rfl
      have l0 : (-1 : Int) ≤ (zs.length : Int) + 1 := by omega
      rw [e0]
      go_wp2_with (first | (go_at_call 8; refine (at_neg _ _ _ _).mono ?_; rintro e w' ⟨rfl, rfl⟩) | (go_at_call 9; refine (reed_neg _ _ _ _).mono ?_; rintro e w' ⟨rfl, rfl⟩))
      exact ⟨⟨1, by omega, rfl, b2⟩, by simp only [intOf]; omega⟩
    · have e0 : ((p + 1 : Nat) : Int) - 1 = p := by omega
      have l0 : (p : Int) ≤ (zs.length : Int) + 1 := by omega
      rw [e0]
      have hA := fun h => at_in' zs a c p wr hT hp h
      have hR := fun w2 h => reed_any zs (.slice a zs.length c) p w2 h hp
      go_wp2_with (first | (go_at_call 8; refine (hA hs).mono ?_; rintro e w2 ⟨rfl, b3⟩; have hT2 := hT.below b3) | (go_at_call 9; refine (hR _ hT2 hs).mono ?_; rintro e w3 ⟨rfl, b4⟩))
      exact ⟨⟨p + 2, by omega, int_eq (by omega), (b2.trans (b3.mono b2.size)).trans (b4.mono (Nat.le_trans b2.size b3.size))⟩, by simp only [intOf]; omega⟩
    · have e0 : ((zs.length + 2 : Nat) : Int) - 1 = (zs.length : Int) + 1 := by omega
      rw [e0]
      go_wp2_with (first | (go_at_call 8; refine (at_past _ _ _ _).mono ?_; rintro e w' ⟨rfl, rfl⟩) | (go_at_call 9; refine (reed_past _ _ _ _).mono ?_; rintro e w' ⟨rfl, rfl⟩))
      exact ⟨⟨zs.length + 3, by omega, int_eq (by omega), b2⟩, by simp only [intOf]; omega⟩
    · have e0 : ((zs.length + 3 : Nat) : Int) - 1 = (zs.length : Int) + 2 := by omega
      have l0 : ¬ ((zs.length : Int) + 2 ≤ (zs.length : Int) + 1) := by omega
      rw [e0]
      go_wp2
      rename World => wa
      go_loopw [7, 35] (fun t i wx => ∃ j : Nat, j ≤ 4 ∧ i = .int .i64 j ∧ t = .int .i64 (topFlip x j) ∧ Below (wa.heap.size + 1) (wa.alloc litO) wx) (fun _ i _ => 4 - (intOf i).toNat)
      case atStart => exact ⟨0, by omega, rfl, rfl, Below.refl _ _⟩
      case round =>
        obtain ⟨j, hj, rfl, rfl, c2⟩ := hrel
        have b5 : Below w.heap.size w wr := (b2.trans ((below1 wa litO).mono b2.size)).trans (c2.mono (Nat.le_trans b2.size (Nat.le_succ _)))
        have hj5 : j = 0 ∨ j = 1 ∨ j = 2 ∨ j = 3 ∨ j = 4 := by omega
        rcases hj5 with rfl | rfl | rfl | rfl | rfl
        · have cj := lit_cell c2 0 rfl
          go_wp2
          · have hs2 : (bits BinOp.and IntKind.i64 x 1 == 1) = true := by assumption
            exact ⟨⟨1, by omega, rfl, by simp only [topFlip, half, flipBit, hs2, if_true], c2⟩, by simp [intOf]⟩
          · have hs2 : (bits BinOp.and IntKind.i64 x 1 == 1) = false := by assumption
            exact ⟨⟨1, by omega, rfl, by simp only [topFlip, half, flipBit, hs2, Bool.false_eq_true, if_false], c2⟩, by simp [intOf]⟩
        · have cj := lit_cell c2 1 rfl
          go_wp2
          · have hs2 : (bits BinOp.and IntKind.i64 (x / 2) 1 == 1) = true := by assumption
            exact ⟨⟨2, by omega, rfl, by simp only [topFlip, half, flipBit, hs2, if_true], c2⟩, by simp [intOf]⟩
          · have hs2 : (bits BinOp.and IntKind.i64 (x / 2) 1 == 1) = false := by assumption
            exact ⟨⟨2, by omega, rfl, by simp only [topFlip, half, flipBit, hs2, Bool.false_eq_true, if_false], c2⟩, by simp [intOf]⟩
        · have cj := lit_cell c2 2 rfl
          go_wp2
          · have hs2 : (bits BinOp.and IntKind.i64 (x / 4) 1 == 1) = true := by assumption
            exact ⟨⟨3, by omega, rfl, by simp only [topFlip, half, flipBit, hs2, if_true], c2⟩, by simp [intOf]⟩
          · have hs2 : (bits BinOp.and IntKind.i64 (x / 4) 1 == 1) = false := by assumption
            exact ⟨⟨3, by omega, rfl, by simp only [topFlip, half, flipBit, hs2, Bool.false_eq_true, if_false], c2⟩, by simp [intOf]⟩
        · have cj := lit_cell c2 3 rfl
          go_wp2
          · have hs2 : (bits BinOp.and IntKind.i64 (x / 8) 1 == 1) = true := by assumption
            exact ⟨⟨4, by omega, rfl, by simp only [topFlip, half, flipBit, hs2, if_true], c2⟩, by simp [intOf]⟩
          · have hs2 : (bits BinOp.and IntKind.i64 (x / 8) 1 == 1) = false := by assumption
            exact ⟨⟨4, by omega, rfl, by simp only [topFlip, half, flipBit, hs2, Bool.false_eq_true, if_false], c2⟩, by simp [intOf]⟩
        · go_wp2
          rename World => wb
          go_loopw [10] (fun i wx => ∃ m : Nat, m ≤ 64 ∧ i = .int .i64 m ∧ Below w.heap.size w wx) (fun i _ => 64 - (intOf i).toNat)
          case atStart => exact ⟨0, by omega, rfl, b5⟩
          case round =>
            obtain ⟨m, hm, rfl, b6⟩ := hrel
            by_cases hm4 : m < 64
            · go_wp2_with (first | (go_at_call 10; refine (holds_any _ _ _).mono ?_; rintro e w' ⟨rfl, rfl⟩))
              refine ⟨?_, ?_⟩
              · (repeat apply Exists.intro)
                exact ⟨⟨m + 1, by omega, by go_num, b6⟩, rfl⟩
              · simp [intOf]; omega
            · have hm5 : m = 64 := by omega
              subst hm5
              go_wp2_with (first | (go_at_call 11; refine (flip_any _ _).mono ?_; rintro e w' ⟨rfl, b7⟩))
              go_ret
              exact ⟨ret_bool (by simp), b6.trans (b7.mono b6.size)⟩

theorem at_in30 (zs : List Int) (a : Option Addr) (c p : Nat) (w : World) (hz : zs.length = 30) (h : TextAt w (.slice a 30 c) zs) (hp : p ≤ 30) (_h : True) :
    Calls Tryz.prog 8 #[.slice a 30 c, .int .i64 p] w fun e w' => e = .returned (.int .i64 (reedSum zs p)) ∧ Below w.heap.size w w' := by
  have := at_in' zs a c p w
  rw [hz] at this
  exact this h hp (by omega)
theorem reed_any30 (zs : List Int) (sl : Value) (p : Nat) (w : World) (hz : zs.length = 30) (h : TextAt w sl zs) (hp : p ≤ 30) (_h : True) :
    Calls Tryz.prog 9 #[sl, .int .i64 p] w fun e w' => e = .returned (.int .i64 (reedSum zs p)) ∧ Below w.heap.size w w' :=
  reed_any zs sl p w h (by omega) (by omega)
theorem at_past30 (a : Option Addr) (c : Nat) (w : World) : Calls Tryz.prog 8 #[.slice a 30 c, .int .i64 31] w fun e w' => e = .returned (.int .i64 0) ∧ w' = w := at_past a 30 c w
theorem reed_past30 (a : Option Addr) (c : Nat) (w : World) : Calls Tryz.prog 9 #[.slice a 30 c, .int .i64 31] w fun e w' => e = .returned (.int .i64 0) ∧ w' = w := reed_past a 30 c w

set_option maxRecDepth 100000 in
set_option maxHeartbeats 16000000 in
theorem top_big (b off c n : Nat) (zs : List Int) (x : Int) (w : World) (hn : 30 < n) (hc : n ≤ c) (hz : zs.length = 30) (ht : TextAt w (.slice (some ⟨b, off, none⟩) 30 c) zs)
    (hawake : Calls Tryz.prog 7 #[] w fun en w1 => en = .returned (.bool true) ∧ Below w.heap.size w w1) (hlaw : flipAcc x 6 = topFlip x 4) :
    Calls Tryz.prog 3 #[.slice (some ⟨b, off, none⟩) n c, .int .i64 x] w fun e w' => e = .returned (.bool true) ∧ Below w.heap.size w w' := by
  go_enter Tryz.func3, Tryz.ntmps3
  go_wp2_with fail
  refine hawake.mono ?_
  rintro e w1 ⟨rfl, b1⟩
  clear hawake
  go_wp2_with fail
  all_goals go_loopw [6] (fun i wr => ∃ k : Nat, k ≤ 30 + 3 ∧ i = .int .i64 ((k : Int) - 1) ∧ Below w.heap.size w wr) (fun i _ => 30 + 3 - (intOf i + 1).toNat)
  case atStart => exact ⟨0, by omega, rfl, b1⟩
  case round =>
    obtain ⟨k, hk, rfl, b2⟩ := hrel
    have hT := ht.below b2
    have hk4 : k = 0 ∨ (∃ p, k = p + 1 ∧ p ≤ 30) ∨ k = 30 + 2 ∨ k = 30 + 3 := by
      rcases k with _ | p
      · exact .inl rfl
      · by_cases h : p ≤ 30
        · exact .inr (.inl ⟨p, rfl, h⟩)
        · omega
    rcases hk4 with rfl | ⟨p, rfl, hp⟩ | rfl | rfl
    · have e0 : ((0 : Nat) : Int) - 1 = -1 := rfl
      have l0 : (-1 : Int) ≤ (30 : Int) + 1 := by omega
      rw [e0]
      go_wp2_with (first | (go_at_call 8; refine (at_neg _ _ _ _).mono ?_; rintro e w' ⟨rfl, rfl⟩) | (go_at_call 9; refine (reed_neg _ _ _ _).mono ?_; rintro e w' ⟨rfl, rfl⟩))
      exact ⟨⟨1, by omega, rfl, b2⟩, by simp only [intOf]; omega⟩
    · have e0 : ((p + 1 : Nat) : Int) - 1 = p := by omega
      have l0 : (p : Int) ≤ (30 : Int) + 1 := by omega
      rw [e0]
      have hA := fun (h : True) => at_in30 zs (some ⟨b, off, none⟩) c p wr hz hT hp h
      have hR := fun w2 h (h2 : True) => reed_any30 zs (.slice (some ⟨b, off, none⟩) 30 c) p w2 hz h hp h2
      go_wp2_with (first | (go_at_call 8; refine (hA trivial).mono ?_; rintro e w2 ⟨rfl, b3⟩; have hT2 := hT.below b3) | (go_at_call 9; refine (hR _ hT2 trivial).mono ?_; rintro e w3 ⟨rfl, b4⟩))
      exact ⟨⟨p + 2, by omega, int_eq (by omega), (b2.trans (b3.mono b2.size)).trans (b4.mono (Nat.le_trans b2.size b3.size))⟩, by simp only [intOf]; omega⟩
    · have e0 : ((30 + 2 : Nat) : Int) - 1 = 31 := rfl
      rw [e0]
      go_wp2_with (first | (go_at_call 8; refine (at_past30 _ _ _).mono ?_; rintro e w' ⟨rfl, rfl⟩) | (go_at_call 9; refine (reed_past30 _ _ _).mono ?_; rintro e w' ⟨rfl, rfl⟩))
      exact ⟨⟨30 + 3, by omega, int_eq (by omega), b2⟩, by simp only [intOf]; omega⟩
    · have e0 : ((30 + 3 : Nat) : Int) - 1 = 32 := rfl
      have l0 : ¬ ((32 : Int) ≤ (30 : Int) + 1) := by omega
      rw [e0]
      go_wp2
      rename World => wa
      go_loopw [7, 35] (fun t i wx => ∃ j : Nat, j ≤ 4 ∧ i = .int .i64 j ∧ t = .int .i64 (topFlip x j) ∧ Below (wa.heap.size + 1) (wa.alloc litO) wx) (fun _ i _ => 4 - (intOf i).toNat)
      case atStart => exact ⟨0, by omega, rfl, rfl, Below.refl _ _⟩
      case round =>
        obtain ⟨j, hj, rfl, rfl, c2⟩ := hrel
        have b5 : Below w.heap.size w wr := (b2.trans ((below1 wa litO).mono b2.size)).trans (c2.mono (Nat.le_trans b2.size (Nat.le_succ _)))
        have hj5 : j = 0 ∨ j = 1 ∨ j = 2 ∨ j = 3 ∨ j = 4 := by omega
        rcases hj5 with rfl | rfl | rfl | rfl | rfl
        · have cj := lit_cell c2 0 rfl
          go_wp2
          · have hs2 : (bits BinOp.and IntKind.i64 x 1 == 1) = true := by assumption
            exact ⟨⟨1, by omega, rfl, by simp only [topFlip, half, flipBit, hs2, if_true], c2⟩, by simp [intOf]⟩
          · have hs2 : (bits BinOp.and IntKind.i64 x 1 == 1) = false := by assumption
            exact ⟨⟨1, by omega, rfl, by simp only [topFlip, half, flipBit, hs2, Bool.false_eq_true, if_false], c2⟩, by simp [intOf]⟩
        · have cj := lit_cell c2 1 rfl
          go_wp2
          · have hs2 : (bits BinOp.and IntKind.i64 (x / 2) 1 == 1) = true := by assumption
            exact ⟨⟨2, by omega, rfl, by simp only [topFlip, half, flipBit, hs2, if_true], c2⟩, by simp [intOf]⟩
          · have hs2 : (bits BinOp.and IntKind.i64 (x / 2) 1 == 1) = false := by assumption
            exact ⟨⟨2, by omega, rfl, by simp only [topFlip, half, flipBit, hs2, Bool.false_eq_true, if_false], c2⟩, by simp [intOf]⟩
        · have cj := lit_cell c2 2 rfl
          go_wp2
          · have hs2 : (bits BinOp.and IntKind.i64 (x / 4) 1 == 1) = true := by assumption
            exact ⟨⟨3, by omega, rfl, by simp only [topFlip, half, flipBit, hs2, if_true], c2⟩, by simp [intOf]⟩
          · have hs2 : (bits BinOp.and IntKind.i64 (x / 4) 1 == 1) = false := by assumption
            exact ⟨⟨3, by omega, rfl, by simp only [topFlip, half, flipBit, hs2, Bool.false_eq_true, if_false], c2⟩, by simp [intOf]⟩
        · have cj := lit_cell c2 3 rfl
          go_wp2
          · have hs2 : (bits BinOp.and IntKind.i64 (x / 8) 1 == 1) = true := by assumption
            exact ⟨⟨4, by omega, rfl, by simp only [topFlip, half, flipBit, hs2, if_true], c2⟩, by simp [intOf]⟩
          · have hs2 : (bits BinOp.and IntKind.i64 (x / 8) 1 == 1) = false := by assumption
            exact ⟨⟨4, by omega, rfl, by simp only [topFlip, half, flipBit, hs2, Bool.false_eq_true, if_false], c2⟩, by simp [intOf]⟩
        · go_wp2
          rename World => wb
          go_loopw [10] (fun i wx => ∃ m : Nat, m ≤ 64 ∧ i = .int .i64 m ∧ Below w.heap.size w wx) (fun i _ => 64 - (intOf i).toNat)
          case atStart => exact ⟨0, by omega, rfl, b5⟩
          case round =>
            obtain ⟨m, hm, rfl, b6⟩ := hrel
            by_cases hm4 : m < 64
            · go_wp2_with (first | (go_at_call 10; refine (holds_any _ _ _).mono ?_; rintro e w' ⟨rfl, rfl⟩))
              refine ⟨?_, ?_⟩
              · (repeat apply Exists.intro)
                exact ⟨⟨m + 1, by omega, by go_num, b6⟩, rfl⟩
              · simp [intOf]; omega
            · have hm5 : m = 64 := by omega
              subst hm5
              go_wp2_with (first | (go_at_call 11; refine (flip_any _ _).mono ?_; rintro e w' ⟨rfl, b7⟩))
              go_ret
              exact ⟨ret_bool (by simp), b6.trans (b7.mono b6.size)⟩
end Go.Proofs.YtmbgnmnaonjdgaaGreatDoor
