/- PART OF A PROOF over the given program: Rn2. See the last text of the claim for the statement. -/
import Derived.Test.YtmbgnmnaonjdgaaGreatDoorRn1
import Derived.Test.YtmbgnmnaonjdgaaGreatDoorHd1
import Derived.Test.YtmbgnmnaonjdgaaGreatDoorKp12
import Derived.Test.YtmbgnmnaonjdgaaGreatDoorLk5
import Derived.Test.YtmbgnmnaonjdgaaGreatDoorAwk
import Derived.StillTailTactics
import Derived.Laws.BitsLemmas
namespace Go.Proofs.YtmbgnmnaonjdgaaGreatDoor
open Go Go.RowKit Go.Own Go.Runes

theorem reedDomain_any (x : Int) (w : World) : Calls Tryz.prog 28 #[.int .i64 x] w fun e w' => e = .returned (.bool (dom x)) ∧ w' = w := by
  have hd : ∀ b : Bool, ((0 ≤ x ∧ x < 55296 ∨ 57343 < x ∧ x ≤ 1114111) ↔ b = true) → dom x = b := fun b h => by
    rw [Bool.eq_iff_iff, dom_iff]; exact h
  by_cases h0 : 0 ≤ x
  · by_cases h1 : x < 55296
    · rw [hd true (by simp; omega)]
      go_enter Tryz.func28, Tryz.ntmps28
      go_wp2
      go_ret
      exact ⟨rfl, rfl⟩
    · by_cases h2 : 57343 < x
      · by_cases h3 : x ≤ 1114111
        · rw [hd true (by simp; omega)]
          go_enter Tryz.func28, Tryz.ntmps28
          go_wp2
          go_ret
          exact ⟨rfl, rfl⟩
        · rw [hd false (by simp; omega)]
          go_enter Tryz.func28, Tryz.ntmps28
          go_wp2
          go_ret
          exact ⟨rfl, rfl⟩
      · rw [hd false (by simp; omega)]
        go_enter Tryz.func28, Tryz.ntmps28
        go_wp2
        go_ret
        exact ⟨rfl, rfl⟩
  · rw [hd false (by simp; omega)]
    go_enter Tryz.func28, Tryz.ntmps28
    go_wp2
    go_ret
    exact ⟨rfl, rfl⟩

theorem domain_any (x : Int) (w : World) : Calls Tryz.prog 55 #[.int .i64 x] w fun e w' => e = .returned (.bool (dom x)) ∧ w' = w := by
  have hd : ∀ b : Bool, ((0 ≤ x ∧ x < 55296 ∨ 57343 < x ∧ x ≤ 1114111) ↔ b = true) → dom x = b := fun b h => by
    rw [Bool.eq_iff_iff, dom_iff]; exact h
  by_cases h0 : 0 ≤ x
  · by_cases h1 : x < 55296
    · have h3 : x ≤ 1114111 := by omega
      rw [hd true (by simp; omega)]
      go_enter Tryz.func55, Tryz.ntmps55
      go_wp2
      go_ret
      exact ⟨rfl, rfl⟩
    · by_cases h2 : 57343 < x
      · by_cases h3 : x ≤ 1114111
        · rw [hd true (by simp; omega)]
          go_enter Tryz.func55, Tryz.ntmps55
          go_wp2
          go_ret
          exact ⟨rfl, rfl⟩
        · rw [hd false (by simp; omega)]
          go_enter Tryz.func55, Tryz.ntmps55
          go_wp2
          go_ret
          exact ⟨rfl, rfl⟩
      · have h3 : x ≤ 1114111 := by omega
        rw [hd false (by simp; omega)]
        go_enter Tryz.func55, Tryz.ntmps55
        go_wp2
        go_ret
        exact ⟨rfl, rfl⟩
  · rw [hd false (by simp; omega)]
    go_enter Tryz.func55, Tryz.ntmps55
    go_wp2
    go_ret
    exact ⟨rfl, rfl⟩

theorem wraps_i64 (n : Int) (h₀ : 0 ≤ n) (h₁ : n < 2 ^ 40) : IntKind.i64.wrap n = n := by rw [IntKind.wrap_i64]; omega
theorem i64_and63 {x : Int} (h₀ : 0 ≤ x) (h₁ : x < 2 ^ 40) : bits .and .i64 x 63 = x % 64 := bits_mask .i64 40 (by decide) wraps_i64 6 (by decide) x h₀ h₁
theorem i64_and31 {x : Int} (h₀ : 0 ≤ x) (h₁ : x < 2 ^ 40) : bits .and .i64 x 31 = x % 32 := bits_mask .i64 40 (by decide) wraps_i64 5 (by decide) x h₀ h₁
theorem i64_and15 {x : Int} (h₀ : 0 ≤ x) (h₁ : x < 2 ^ 40) : bits .and .i64 x 15 = x % 16 := bits_mask .i64 40 (by decide) wraps_i64 4 (by decide) x h₀ h₁
theorem i64_and7 {x : Int} (h₀ : 0 ≤ x) (h₁ : x < 2 ^ 40) : bits .and .i64 x 7 = x % 8 := bits_mask .i64 40 (by decide) wraps_i64 3 (by decide) x h₀ h₁
theorem i64_or6 {x y : Int} (hx₀ : 0 ≤ x) (hx : x % 64 = 0) (hx₁ : x < 2 ^ 40) (h₀ : 0 ≤ y) (h₁ : y < 64) : bits .or .i64 x y = x + y := bits_join .i64 40 (by decide) wraps_i64 6 x y hx₀ hx hx₁ h₀ h₁ (by omega)
theorem i64_or5 {x y : Int} (hx₀ : 0 ≤ x) (hx : x % 32 = 0) (hx₁ : x < 2 ^ 40) (h₀ : 0 ≤ y) (h₁ : y < 32) : bits .or .i64 x y = x + y := bits_join .i64 40 (by decide) wraps_i64 5 x y hx₀ hx hx₁ h₀ h₁ (by omega)
theorem i64_or4 {x y : Int} (hx₀ : 0 ≤ x) (hx : x % 16 = 0) (hx₁ : x < 2 ^ 40) (h₀ : 0 ≤ y) (h₁ : y < 16) : bits .or .i64 x y = x + y := bits_join .i64 40 (by decide) wraps_i64 4 x y hx₀ hx hx₁ h₀ h₁ (by omega)
theorem i64_or3 {x y : Int} (hx₀ : 0 ≤ x) (hx : x % 8 = 0) (hx₁ : x < 2 ^ 40) (h₀ : 0 ≤ y) (h₁ : y < 8) : bits .or .i64 x y = x + y := bits_join .i64 40 (by decide) wraps_i64 3 x y hx₀ hx hx₁ h₀ h₁ (by omega)

theorem six_reed (B : Nat) (n x : Int) (w : World) (hn : n = 0 ∨ n = 6 ∨ n = 12) (hx : 0 ≤ x ∧ x ≤ 1114111) (hc : w.cell? ⟨B, 0, none⟩ = some (.int .i64 x)) :
    Calls Tryz.prog 53 #[.int .u64 n, .pointer (some ⟨B, 0, none⟩)] w fun e w' => e = .returned (.int .u8 (128 + x / 2 ^ n.toNat % 64)) ∧ w' = w := by
  rcases hn with rfl | rfl | rfl
  · go_enter Tryz.func53, Tryz.ntmps53
    go_wp2
    go_ret
    exact ⟨ret_int (by rw [i64_and63 (by omega) (by omega)]; unfold wrap64; simp; omega), rfl⟩
  · go_enter Tryz.func53, Tryz.ntmps53
    go_wp2
    go_ret
    exact ⟨ret_int (by rw [i64_and63 (by omega) (by omega)]; unfold wrap64; simp; omega), rfl⟩
  · go_enter Tryz.func53, Tryz.ntmps53
    go_wp2
    go_ret
    exact ⟨ret_int (by rw [i64_and63 (by omega) (by omega)]; unfold wrap64; simp; omega), rfl⟩

theorem six_enc (B : Nat) (n x : Int) (w : World) (hn : n = 0 ∨ n = 1 ∨ n = 2) (hx : 0 ≤ x ∧ x ≤ 1114111) (hc : w.cell? ⟨B, 0, none⟩ = some (.int .i64 x)) :
    Calls Tryz.prog 54 #[.int .i64 n, .pointer (some ⟨B, 0, none⟩)] w fun e w' => e = .returned (.int .u8 (128 + x / 2 ^ (6 * n.toNat) % 64)) ∧ w' = w := by
  rcases hn with rfl | rfl | rfl
  · go_enter Tryz.func54, Tryz.ntmps54
    go_wp2
    go_ret
    exact ⟨ret_int (by rw [i64_and63 (by omega) (by omega), i64_or6 (by omega) (by omega) (by omega) (by omega) (by omega)]; simp; omega), rfl⟩
  · go_enter Tryz.func54, Tryz.ntmps54
    go_wp2
    go_ret
    exact ⟨ret_int (by rw [i64_and63 (by omega) (by omega), i64_or6 (by omega) (by omega) (by omega) (by omega) (by omega)]; simp; omega), rfl⟩
  · go_enter Tryz.func54, Tryz.ntmps54
    go_wp2
    go_ret
    exact ⟨ret_int (by rw [i64_and63 (by omega) (by omega), i64_or6 (by omega) (by omega) (by omega) (by omega) (by omega)]; simp; omega), rfl⟩

theorem six0 (B : Nat) (x : Int) (w : World) (hx : 0 ≤ x ∧ x ≤ 1114111) (hc : w.cell? ⟨B, 0, none⟩ = some (.int .i64 x)) : Calls Tryz.prog 53 #[.int .u64 0, .pointer (some ⟨B, 0, none⟩)] w fun e w' => e = .returned (.int .u8 (128 + x % 64)) ∧ w' = w := by
  have := six_reed B 0 x w (by omega) hx hc
  simpa using this
theorem six6 (B : Nat) (x : Int) (w : World) (hx : 0 ≤ x ∧ x ≤ 1114111) (hc : w.cell? ⟨B, 0, none⟩ = some (.int .i64 x)) : Calls Tryz.prog 53 #[.int .u64 6, .pointer (some ⟨B, 0, none⟩)] w fun e w' => e = .returned (.int .u8 (128 + x / 64 % 64)) ∧ w' = w :=
  six_reed B 6 x w (by omega) hx hc
theorem six12 (B : Nat) (x : Int) (w : World) (hx : 0 ≤ x ∧ x ≤ 1114111) (hc : w.cell? ⟨B, 0, none⟩ = some (.int .i64 x)) : Calls Tryz.prog 53 #[.int .u64 12, .pointer (some ⟨B, 0, none⟩)] w fun e w' => e = .returned (.int .u8 (128 + x / 4096 % 64)) ∧ w' = w :=
  six_reed B 12 x w (by omega) hx hc
theorem sixE0 (B : Nat) (x : Int) (w : World) (hx : 0 ≤ x ∧ x ≤ 1114111) (hc : w.cell? ⟨B, 0, none⟩ = some (.int .i64 x)) : Calls Tryz.prog 54 #[.int .i64 0, .pointer (some ⟨B, 0, none⟩)] w fun e w' => e = .returned (.int .u8 (128 + x % 64)) ∧ w' = w := by
  have := six_enc B 0 x w (by omega) hx hc
  simpa using this
theorem sixE1 (B : Nat) (x : Int) (w : World) (hx : 0 ≤ x ∧ x ≤ 1114111) (hc : w.cell? ⟨B, 0, none⟩ = some (.int .i64 x)) : Calls Tryz.prog 54 #[.int .i64 1, .pointer (some ⟨B, 0, none⟩)] w fun e w' => e = .returned (.int .u8 (128 + x / 64 % 64)) ∧ w' = w :=
  six_enc B 1 x w (by omega) hx hc
theorem sixE2 (B : Nat) (x : Int) (w : World) (hx : 0 ≤ x ∧ x ≤ 1114111) (hc : w.cell? ⟨B, 0, none⟩ = some (.int .i64 x)) : Calls Tryz.prog 54 #[.int .i64 2, .pointer (some ⟨B, 0, none⟩)] w fun e w' => e = .returned (.int .u8 (128 + x / 4096 % 64)) ∧ w' = w :=
  six_enc B 2 x w (by omega) hx hc

theorem conv_bytes (w : World) (k : Nat) (xs : List Int) (hk : k = w.heap.size) (c : Nat) :
    (convert 29 9 (.slice (some ⟨k, 0, none⟩) xs.length c)).run Tryz.prog (w.alloc (.cells (xs.map (Value.int .u8)).toArray 5)) = .ok (.string (strOfNums xs)) (w.alloc (.cells (xs.map (Value.int .u8)).toArray 5)) := by
  subst hk
  refine run_convert_bytes_arg _ 29 5 Tryz.underlying29 Tryz.underlying5 w.heap.size 0 xs.length c xs rfl (fun i hi => ?_) 9 Tryz.underlying9
  rw [Nat.zero_add, World.cell?_alloc_at _ _ _ _ rfl]
  simp [hi]

theorem mkFunc (fn : Fn) (first cap : Array Value) (w : World) : (Instr.makeFunc fn first cap).run Tryz.prog w = .ok (.func fn first cap) w := rfl

set_option maxRecDepth 100000 in
set_option maxHeartbeats 1000000 in
theorem encode1 (x : Int) (w : World) (h0 : 0 ≤ x) (h1 : x < 128) :
    Calls Tryz.prog 29 #[.int .i64 x] w fun e w' => e = .returned (.string (strOfNums [x])) ∧ Below w.heap.size w w' := by
  have hmf := mkFunc
  have hcv : (convert 29 9 (.slice (some ⟨w.heap.size + 1, 0, none⟩) 1 1)).run Tryz.prog ((w.alloc (.cells #[.int .i64 x] 3)).alloc (.cells #[.int .u8 x] 5)) = .ok (.string (strOfNums [x])) ((w.alloc (.cells #[.int .i64 x] 3)).alloc (.cells #[.int .u8 x] 5)) :=
    conv_bytes (w.alloc (.cells #[.int .i64 x] 3)) (w.heap.size + 1) [x] (by simp) 1
  go_enter Tryz.func29, Tryz.ntmps29
  go_wp2
  go_ret
  exact ⟨rfl, below2 _ _ _⟩

set_option maxRecDepth 100000 in
set_option maxHeartbeats 1000000 in
theorem encode2 (x : Int) (w : World) (h0 : 128 ≤ x) (h1 : x < 2048) :
    Calls Tryz.prog 29 #[.int .i64 x] w fun e w' => e = .returned (.string (strOfNums [192 + x / 64, 128 + x % 64])) ∧ Below w.heap.size w w' := by
  have hmf := mkFunc
  have g0 : (w.alloc (.cells #[.int .i64 x] 3)).cell? ⟨w.heap.size, 0, none⟩ = some (.int .i64 x) := by rw [World.cell?_alloc_at _ _ _ _ rfl]; rfl
  go_enter Tryz.func29, Tryz.ntmps29
  go_wp2_with fail
  refine wp_region_still_tail 6 tryz_mixed (by kernel_rfl) ?_
  simp only [List.take_succ_cons, List.take_zero, List.drop_succ_cons, List.drop_zero]
  have g1 : (w.alloc (.cells #[.int .i64 x] 3)).drew.cell? ⟨w.heap.size, 0, none⟩ = some (.int .i64 x) := g0
  have e1 : IntKind.i64.wrap (192 + x / 64) = 192 + x / 64 := IntWalk.i64_in _ (by omega)
  have e2 : IntKind.u8.wrap (192 + x / 64) = 192 + x / 64 := by rw [IntKind.wrap_u8]; omega
  change wpStill _ _ (w.alloc (.cells #[.int .i64 x] 3)).drew _ _ _
  repeat still_step
  still_call (six0 _ _ _ ⟨by omega, by omega⟩ g1)
  repeat still_step
  refine wpStill_nil ?_
  change wpList _ _ _ _ _ (w.alloc (.cells #[.int .i64 x] 3)).drew
  clear e1 e2 g1 g0
  have hcv : (convert 29 9 (.slice (some ⟨w.heap.size + 1, 0, none⟩) 2 2)).run Tryz.prog ((w.alloc (.cells #[.int .i64 x] 3)).alloc (.cells #[.int .u8 (192 + x / 64), .int .u8 (128 + x % 64)] 5)).drew = .ok (.string (strOfNums [192 + x / 64, 128 + x % 64])) ((w.alloc (.cells #[.int .i64 x] 3)).alloc (.cells #[.int .u8 (192 + x / 64), .int .u8 (128 + x % 64)] 5)).drew :=
    conv_bytes (w.alloc (.cells #[.int .i64 x] 3)).drew (w.heap.size + 1) [192 + x / 64, 128 + x % 64] (by simp) 2
  go_wp2
  go_ret
  exact ⟨rfl, (below1 w _).drew.alloc (by simp) _⟩

set_option maxRecDepth 100000 in
set_option maxHeartbeats 1000000 in
theorem encode3 (x : Int) (w : World) (h0 : 2048 ≤ x) (h1 : x < 65536) :
    Calls Tryz.prog 29 #[.int .i64 x] w fun e w' => e = .returned (.string (strOfNums [224 + x / 4096, 128 + x / 64 % 64, 128 + x % 64])) ∧ Below w.heap.size w w' := by
  have hmf := mkFunc
  have g0 : (w.alloc (.cells #[.int .i64 x] 3)).cell? ⟨w.heap.size, 0, none⟩ = some (.int .i64 x) := by rw [World.cell?_alloc_at _ _ _ _ rfl]; rfl
  go_enter Tryz.func29, Tryz.ntmps29
  go_wp2_with fail
  refine wp_region_still_tail 8 tryz_mixed (by kernel_rfl) ?_
  simp only [List.take_succ_cons, List.take_zero, List.drop_succ_cons, List.drop_zero]
  have g1 : (w.alloc (.cells #[.int .i64 x] 3)).drew.cell? ⟨w.heap.size, 0, none⟩ = some (.int .i64 x) := g0
  have e1 : IntKind.i64.wrap (224 + x / 4096) = 224 + x / 4096 := IntWalk.i64_in _ (by omega)
  have e2 : IntKind.u8.wrap (224 + x / 4096) = 224 + x / 4096 := by rw [IntKind.wrap_u8]; omega
  change wpStill _ _ (w.alloc (.cells #[.int .i64 x] 3)).drew _ _ _
  repeat still_step
  still_call (six6 _ _ _ ⟨by omega, by omega⟩ g1)
  repeat still_step
  still_call (six0 _ _ _ ⟨by omega, by omega⟩ g1)
  repeat still_step
  refine wpStill_nil ?_
  change wpList _ _ _ _ _ (w.alloc (.cells #[.int .i64 x] 3)).drew
  clear e1 e2 g1 g0
  have hcv : (convert 29 9 (.slice (some ⟨w.heap.size + 1, 0, none⟩) 3 3)).run Tryz.prog ((w.alloc (.cells #[.int .i64 x] 3)).alloc (.cells #[.int .u8 (224 + x / 4096), .int .u8 (128 + x / 64 % 64), .int .u8 (128 + x % 64)] 5)).drew = .ok (.string (strOfNums [224 + x / 4096, 128 + x / 64 % 64, 128 + x % 64])) ((w.alloc (.cells #[.int .i64 x] 3)).alloc (.cells #[.int .u8 (224 + x / 4096), .int .u8 (128 + x / 64 % 64), .int .u8 (128 + x % 64)] 5)).drew :=
    conv_bytes (w.alloc (.cells #[.int .i64 x] 3)).drew (w.heap.size + 1) [224 + x / 4096, 128 + x / 64 % 64, 128 + x % 64] (by simp) 3
  go_wp2
  go_ret
  exact ⟨rfl, (below1 w _).drew.alloc (by simp) _⟩

set_option maxRecDepth 100000 in
set_option maxHeartbeats 1000000 in
theorem encode4 (x : Int) (w : World) (h0 : 65536 ≤ x) (h1 : x < 1114112) :
    Calls Tryz.prog 29 #[.int .i64 x] w fun e w' => e = .returned (.string (strOfNums [240 + x / 262144, 128 + x / 4096 % 64, 128 + x / 64 % 64, 128 + x % 64])) ∧ Below w.heap.size w w' := by
  have hmf := mkFunc
  have g0 : (w.alloc (.cells #[.int .i64 x] 3)).cell? ⟨w.heap.size, 0, none⟩ = some (.int .i64 x) := by rw [World.cell?_alloc_at _ _ _ _ rfl]; rfl
  go_enter Tryz.func29, Tryz.ntmps29
  go_wp2_with fail
  refine wp_region_still_tail 10 tryz_mixed (by kernel_rfl) ?_
  simp only [List.take_succ_cons, List.take_zero, List.drop_succ_cons, List.drop_zero]
  have g1 : (w.alloc (.cells #[.int .i64 x] 3)).drew.cell? ⟨w.heap.size, 0, none⟩ = some (.int .i64 x) := g0
  have e1 : IntKind.i64.wrap (240 + x / 262144) = 240 + x / 262144 := IntWalk.i64_in _ (by omega)
  have e2 : IntKind.u8.wrap (240 + x / 262144) = 240 + x / 262144 := by rw [IntKind.wrap_u8]; omega
  change wpStill _ _ (w.alloc (.cells #[.int .i64 x] 3)).drew _ _ _
  repeat still_step
  still_call (six12 _ _ _ ⟨by omega, by omega⟩ g1)
  repeat still_step
  still_call (six6 _ _ _ ⟨by omega, by omega⟩ g1)
  repeat still_step
  still_call (six0 _ _ _ ⟨by omega, by omega⟩ g1)
  repeat still_step
  refine wpStill_nil ?_
  change wpList _ _ _ _ _ (w.alloc (.cells #[.int .i64 x] 3)).drew
  clear e1 e2 g1 g0
  have hcv : (convert 29 9 (.slice (some ⟨w.heap.size + 1, 0, none⟩) 4 4)).run Tryz.prog ((w.alloc (.cells #[.int .i64 x] 3)).alloc (.cells #[.int .u8 (240 + x / 262144), .int .u8 (128 + x / 4096 % 64), .int .u8 (128 + x / 64 % 64), .int .u8 (128 + x % 64)] 5)).drew = .ok (.string (strOfNums [240 + x / 262144, 128 + x / 4096 % 64, 128 + x / 64 % 64, 128 + x % 64])) ((w.alloc (.cells #[.int .i64 x] 3)).alloc (.cells #[.int .u8 (240 + x / 262144), .int .u8 (128 + x / 4096 % 64), .int .u8 (128 + x / 64 % 64), .int .u8 (128 + x % 64)] 5)).drew :=
    conv_bytes (w.alloc (.cells #[.int .i64 x] 3)).drew (w.heap.size + 1) [240 + x / 262144, 128 + x / 4096 % 64, 128 + x / 64 % 64, 128 + x % 64] (by simp) 4
  go_wp2
  go_ret
  exact ⟨rfl, (below1 w _).drew.alloc (by simp) _⟩

end Go.Proofs.YtmbgnmnaonjdgaaGreatDoor
