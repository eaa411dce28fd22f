/- PART OF A PROOF over the given program: Lk6. See the last text of the claim for the statement. -/
import Derived.Test.YtmbgnmnaonjdgaaGreatDoorLk5
namespace Go.Proofs.YtmbgnmnaonjdgaaGreatDoor
open Go Go.RowKit

/-! ### the low six bits -/
theorem low_and (N c : Nat) (hc : c < 64) : N &&& c = (N % 64) &&& c := by
  have h1 : (N &&& c) % 2 ^ 6 = (N % 2 ^ 6) &&& (c % 2 ^ 6) := Nat.and_mod_two_pow
  have h2 : N &&& c ≤ c := Nat.and_le_right
  have h3 : c % 2 ^ 6 = c := Nat.mod_eq_of_lt hc
  rw [h3, Nat.mod_eq_of_lt (show N &&& c < 2 ^ 6 by omega)] at h1
  exact h1
theorem low_or (N c : Nat) (hc : c < 64) : N ||| c = N / 64 * 64 + (N % 64 ||| c) := by
  have h1 : (N ||| c) % 2 ^ 6 = (N % 2 ^ 6) ||| (c % 2 ^ 6) := Nat.or_mod_two_pow
  have h3 : c % 2 ^ 6 = c := Nat.mod_eq_of_lt hc
  have h4 : (N ||| c) / 2 ^ 6 = N / 2 ^ 6 ||| c / 2 ^ 6 := by
    rw [← Nat.shiftRight_eq_div_pow, ← Nat.shiftRight_eq_div_pow, ← Nat.shiftRight_eq_div_pow, Nat.shiftRight_or_distrib]
  have h5 : c / 2 ^ 6 = 0 := Nat.div_eq_of_lt hc
  rw [h5, Nat.or_zero] at h4
  rw [h3] at h1
  have := Nat.div_add_mod (N ||| c) 64
  have e1 : (N ||| c) / 64 = N / 64 := h4
  have e2 : (N ||| c) % 64 = (N % 64 ||| c) := h1
  rw [e1, e2] at this
  omega
theorem low_not (N c : Nat) (hN : N < 18446744073709551616) (hc : c < 64) : N &&& (18446744073709551615 - c) = N / 64 * 64 + (N % 64 &&& (63 - c)) := by
  have h1 : (N &&& (18446744073709551615 - c)) % 2 ^ 6 = (N % 2 ^ 6) &&& ((18446744073709551615 - c) % 2 ^ 6) := Nat.and_mod_two_pow
  have h4 : (N &&& (18446744073709551615 - c)) / 2 ^ 6 = N / 2 ^ 6 &&& (18446744073709551615 - c) / 2 ^ 6 := by
    rw [← Nat.shiftRight_eq_div_pow, ← Nat.shiftRight_eq_div_pow, ← Nat.shiftRight_eq_div_pow, Nat.shiftRight_and_distrib]
  have h5 : (18446744073709551615 - c) / 2 ^ 6 = 2 ^ 58 - 1 := by omega
  have h6 : (18446744073709551615 - c) % 2 ^ 6 = 63 - c := by omega
  rw [h5, Nat.and_two_pow_sub_one_eq_mod, Nat.mod_eq_of_lt (by omega)] at h4
  rw [h6] at h1
  have := Nat.div_add_mod (N &&& (18446744073709551615 - c)) 64
  have e1 : (N &&& (18446744073709551615 - c)) / 64 = N / 64 := h4
  have e2 : (N &&& (18446744073709551615 - c)) % 64 = (N % 64 &&& (63 - c)) := h1
  rw [e1, e2] at this
  omega

theorem ofInt_nat (x : Int) : ((BitVec.ofInt 64 x).toNat : Int) = x % 18446744073709551616 := by
  rw [BitVec.toNat_ofInt]
  have : (0 : Int) ≤ x % 18446744073709551616 := Int.emod_nonneg _ (by decide)
  exact Int.toNat_of_nonneg this

def inI64 (x : Int) : Prop := -9223372036854775808 ≤ x ∧ x < 9223372036854775808

theorem bits_and_low (x : Int) (c : Nat) (hc : c < 64) (s : Nat) (hs : (s : Int) = x % 64) : bits .and .i64 x c = ((s &&& c : Nat) : Int) := by
  have hN := ofInt_nat x
  generalize hX : BitVec.ofInt 64 x = X at hN
  have e : bits .and .i64 x c = IntKind.i64.wrap ((X &&& BitVec.ofInt 64 c).toNat : Nat) := by rw [← hX]; rfl
  rw [e, BitVec.toNat_and]
  have hC : (BitVec.ofInt 64 (c : Int)).toNat = c := by
    have := ofInt_nat (c : Int)
    omega
  rw [hC, low_and _ _ hc]
  have : X.toNat % 64 = s := by omega
  rw [this, IntKind.wrap_i64]
  have : s &&& c ≤ c := Nat.and_le_right
  omega
theorem bits_or_low (m : Int) (s c : Nat) (hc : c < 64) (hs : s < 64) (hx : inI64 (64 * m + s)) : bits .or .i64 (64 * m + s) c = 64 * m + ((s ||| c : Nat) : Int) := by
  have hN := ofInt_nat (64 * m + s)
  generalize hX : BitVec.ofInt 64 (64 * m + s) = X at hN
  have e : bits .or .i64 (64 * m + s) c = IntKind.i64.wrap ((X ||| BitVec.ofInt 64 c).toNat : Nat) := by rw [← hX]; rfl
  rw [e, BitVec.toNat_or]
  have hC : (BitVec.ofInt 64 (c : Int)).toNat = c := by
    have := ofInt_nat (c : Int)
    omega
  rw [hC, low_or _ _ hc]
  have h1 : X.toNat % 64 = s := by omega
  have h2 : s ||| c < 2 ^ 6 := Nat.or_lt_two_pow hs hc
  rw [h1, IntKind.wrap_i64]
  unfold inI64 at hx
  generalize s ||| c = t at h2
  omega
theorem bits_not_low (m : Int) (s c : Nat) (hc : c < 64) (hs : s < 64) (hx : inI64 (64 * m + s)) : bits .andNot .i64 (64 * m + s) c = 64 * m + ((s &&& (63 - c) : Nat) : Int) := by
  have hN := ofInt_nat (64 * m + s)
  generalize hX : BitVec.ofInt 64 (64 * m + s) = X at hN
  have e : bits .andNot .i64 (64 * m + s) c = IntKind.i64.wrap ((X &&& ~~~ BitVec.ofInt 64 c).toNat : Nat) := by rw [← hX]; rfl
  rw [e, BitVec.toNat_and]
  have hC : (~~~ BitVec.ofInt 64 (c : Int)).toNat = 18446744073709551615 - c := by
    have := ofInt_nat (c : Int)
    rw [BitVec.toNat_not]
    omega
  rw [hC, low_not _ _ X.isLt hc]
  have h1 : X.toNat % 64 = s := by omega
  have h2 : s &&& (63 - c) ≤ s := Nat.and_le_left
  rw [h1, IntKind.wrap_i64]
  unfold inI64 at hx
  generalize s &&& (63 - c) = t at h2
  omega

/-! ### both, on the low six bits -/
def bitN : Nat → Nat × Nat
  | 0 => (1, 2) | 1 => (2, 1) | 2 => (4, 8) | 3 => (8, 4) | 4 => (16, 16) | _ => (32, 32)
theorem bitN_eq (k : Nat) : flipBit k = (((bitN k).1 : Int), ((bitN k).2 : Int)) := by
  match k with
  | 0 | 1 | 2 | 3 | 4 => rfl
  | k + 5 => rfl
theorem bitN_lt (k : Nat) : (bitN k).1 < 64 ∧ (bitN k).2 < 64 := by
  match k with
  | 0 | 1 | 2 | 3 | 4 => decide
  | k + 5 => exact ⟨by show 32 < 64; decide, by show 32 < 64; decide⟩
def flipN (r : Nat) : Nat → Nat
  | 0 => r
  | k + 1 => if (r &&& (bitN k).1 != 0) = true then flipN r k ||| (bitN k).2 else flipN r k &&& (63 - (bitN k).2)
def topN (r : Nat) : Nat → Nat
  | 0 => r &&& 48
  | k + 1 => if (r / 2 ^ k % 2 == 1) = true then topN r k ||| (bitN k).2 else topN r k
theorem flip_top : ∀ r, r < 64 → flipN r 6 = topN r 4 := by decide

theorem flipAcc_eq (m : Int) (r : Nat) (hr : r < 64) (hx : inI64 (64 * m)) : ∀ k, flipAcc (64 * m + r) k = 64 * m + (flipN r k : Nat) ∧ flipN r k < 64 := by
  have hin : ∀ s : Nat, s < 64 → inI64 (64 * m + s) := fun s hs => by unfold inI64 at *; omega
  intro k
  induction k with
  | zero => exact ⟨rfl, hr⟩
  | succ k ih =>
    obtain ⟨h1, h2⟩ := ih
    have hb := bitN_lt k
    have ht : (bits .and .i64 (64 * m + r) (flipBit k).1 != 0) = (r &&& (bitN k).1 != 0) := by
      rw [bitN_eq, bits_and_low _ _ hb.1 r (by omega)]
      generalize r &&& (bitN k).1 = t
      rw [Bool.eq_iff_iff]; simp
    simp only [flipAcc, flipN, ht]
    split
    · rw [bitN_eq, h1]
      exact ⟨bits_or_low m _ _ hb.2 h2 (hin _ h2), Nat.or_lt_two_pow (n := 6) h2 hb.2⟩
    · rw [bitN_eq, h1]
      exact ⟨bits_not_low m _ _ hb.2 h2 (hin _ h2), Nat.lt_of_le_of_lt Nat.and_le_left h2⟩

theorem half_eq (x : Int) : ∀ k, k < 4 → half x k = x / 2 ^ k
  | 0, _ => by simp [half]
  | 1, _ => rfl
  | 2, _ => rfl
  | 3, _ => rfl
  | k + 4, h => by omega

theorem topFlip_eq (m : Int) (r : Nat) (hr : r < 64) (hx : inI64 (64 * m)) : ∀ k, k ≤ 4 → topFlip (64 * m + r) k = 64 * m + (topN r k : Nat) ∧ topN r k < 64 := by
  have hin : ∀ s : Nat, s < 64 → inI64 (64 * m + s) := fun s hs => by unfold inI64 at *; omega
  intro k
  induction k with
  | zero => exact fun _ => ⟨bits_not_low m r 15 (by decide) hr (hin r hr), Nat.lt_of_le_of_lt Nat.and_le_left hr⟩
  | succ k ih =>
    intro hk
    obtain ⟨h1, h2⟩ := ih (by omega)
    have hb := bitN_lt k
    have ht : (bits .and .i64 (half (64 * m + r) k) 1 == 1) = (r / 2 ^ k % 2 == 1) := by
      have hk4 : k = 0 ∨ k = 1 ∨ k = 2 ∨ k = 3 := by omega
      have hy : ∃ s : Nat, (s : Int) = half (64 * m + r) k % 64 := ⟨(half (64 * m + r) k % 64).toNat, Int.toNat_of_nonneg (Int.emod_nonneg _ (by decide))⟩
      obtain ⟨s, hs⟩ := hy
      have e1 := bits_and_low _ 1 (by decide) s hs
      have e2 : s &&& 1 = s % 2 := Nat.and_one_is_mod s
      rw [show ((1 : Nat) : Int) = 1 from rfl] at e1
      rw [e1, e2, Bool.eq_iff_iff]
      rcases hk4 with rfl | rfl | rfl | rfl <;> simp only [half] at hs <;> simp only [beq_iff_eq] <;> omega
    simp only [topFlip, topN, ht]
    split
    · rw [bitN_eq, h1]
      exact ⟨bits_or_low m _ _ hb.2 h2 (hin _ h2), Nat.or_lt_two_pow (n := 6) h2 hb.2⟩
    · exact ⟨h1, h2⟩

/-- THE PLAIN LAW OF WHAT IS LOOKED AT BACKWARD. -/
theorem flip_law (x : Int) (hx : inI64 x) : flipAcc x 6 = topFlip x 4 := by
  obtain ⟨r, hr⟩ : ∃ r : Nat, (r : Int) = x % 64 := ⟨(x % 64).toNat, Int.toNat_of_nonneg (Int.emod_nonneg _ (by decide))⟩
  have hr64 : r < 64 := by omega
  have e : x = 64 * (x / 64) + r := by omega
  have hm : inI64 (64 * (x / 64)) := by unfold inI64 at *; omega
  rw [e, (flipAcc_eq (x / 64) r hr64 hm 6).1, (topFlip_eq (x / 64) r hr64 hm 4 (Nat.le_refl _)).1, flip_top r hr64]
end Go.Proofs.YtmbgnmnaonjdgaaGreatDoor
