/- PART OF A PROOF over the given program: Lk1. See the last text of the claim for the statement. -/
import Derived.Test.YtmbgnmnaonjdgaaGreatDoorRows
import Derived.WalkKit
import Derived.WalkSpells
import Derived.WalkLawsBesides
namespace Go.Proofs.YtmbgnmnaonjdgaaGreatDoor
open Go Go.RowKit

theorem ret_bool {a b : Bool} (h : a = b) : Ending.returned (.bool a) = Ending.returned (.bool b) := by rw [h]
theorem ret_int {a b : Int} {k : IntKind} (h : a = b) : Ending.returned (.int k a) = Ending.returned (.int k b) := by rw [h]

def wordB (x : Int) : Bool := ((decide (97 ≤ x) && decide (x ≤ 122)) || (decide (65 ≤ x) && decide (x ≤ 90))) || (decide (48 ≤ x) && decide (x ≤ 57)) || x == 95

set_option maxHeartbeats 1000000 in
theorem word_any (x : Int) (w : World) : Calls Tryz.prog 30 #[.int .i64 x] w fun e w' => e = .returned (.bool (wordB x)) ∧ w' = w := by
  go_enter Tryz.func30, Tryz.ntmps30
  go_wp2
  all_goals go_ret
  all_goals refine ⟨ret_bool ?_, rfl⟩
  all_goals (rw [Bool.eq_iff_iff]; simp only [wordB, Bool.or_eq_true, Bool.and_eq_true, decide_eq_true_eq, beq_iff_eq, true_iff] <;> omega)

set_option maxHeartbeats 1000000 in
theorem first_any (sl : Value) (p : Int) (w : World) : Calls Tryz.prog 68 #[.agg #[sl, .int .i64 p]] w fun e w' => e = .returned (.bool (p == 0)) ∧ w' = w.alloc (.cells #[sl, .int .i64 p] 83) := by
  go_enter Tryz.func68, Tryz.ntmps68
  go_wp2
  go_ret
  exact ⟨rfl, rfl⟩

set_option maxHeartbeats 1000000 in
theorem last_any (a : Option Addr) (n c : Nat) (p : Int) (w : World) : Calls Tryz.prog 69 #[.agg #[.slice a n c, .int .i64 p]] w fun e w' => e = .returned (.bool (p == n)) ∧ w' = w.alloc (.cells #[.slice a n c, .int .i64 p] 83) := by
  go_enter Tryz.func69, Tryz.ntmps69
  go_wp2
  go_ret
  exact ⟨rfl, rfl⟩

theorem cell1 {w : World} {b i : Nat} {v : Value} {o : Obj} (hb : b < w.heap.size) (h : w.cell? ⟨b, i, none⟩ = some v) : (w.alloc o).cell? ⟨b, i, none⟩ = some v := by
  rw [World.cell?_alloc_past _ _ _ hb]; exact h
theorem cell2 {w : World} {b i : Nat} {v : Value} {o o' : Obj} (hb : b < w.heap.size) (h : w.cell? ⟨b, i, none⟩ = some v) : ((w.alloc o).alloc o').cell? ⟨b, i, none⟩ = some v :=
  cell1 (by simp; omega) (cell1 hb h)
theorem cell3 {w : World} {b i : Nat} {v : Value} {o o' o'' : Obj} (hb : b < w.heap.size) (h : w.cell? ⟨b, i, none⟩ = some v) : (((w.alloc o).alloc o').alloc o'').cell? ⟨b, i, none⟩ = some v :=
  cell1 (by simp; omega) (cell2 hb h)

set_option maxHeartbeats 1000000 in
theorem begin_zero (a : Option Addr) (n c : Nat) (w : World) :
    Calls Tryz.prog 70 #[.agg #[.slice a n c, .int .i64 0]] w fun e w' => e = .returned (.bool true) ∧ w' = (w.alloc (.cells #[.slice a n c, .int .i64 0] 83)).alloc (.cells #[.slice a n c, .int .i64 0] 83) := by
  go_enter Tryz.func70, Tryz.ntmps70
  go_wp2
  go_ret
  exact ⟨rfl, rfl⟩

abbrev spotO (a : Option Addr) (n c : Nat) (p : Int) : Obj := .cells #[.slice a n c, .int .i64 p] 83

set_option maxHeartbeats 1000000 in
theorem begin_succ (b off n c q : Nat) (x : Int) (w : World) (hp : q < n) (hm : n ≤ 30) (hb : b < w.heap.size) (hc : w.cell? ⟨b, off + q, none⟩ = some (.int .i64 x)) :
    Calls Tryz.prog 70 #[.agg #[.slice (some ⟨b, off, none⟩) n c, .int .i64 ((q : Int) + 1)]] w fun e w' => e = .returned (.bool (x == 10)) ∧ w' = (w.alloc (spotO (some ⟨b, off, none⟩) n c (q + 1))).alloc (spotO (some ⟨b, off, none⟩) n c (q + 1)) := by
  have hcell := cell2 (o := .cells #[.slice (some ⟨b, off, none⟩) n c, .int .i64 ((q : Int) + 1)] 83) (o' := .cells #[.slice (some ⟨b, off, none⟩) n c, .int .i64 ((q : Int) + 1)] 83) hb hc
  go_enter Tryz.func70, Tryz.ntmps70
  go_wp2
  go_ret
  exact ⟨ret_bool (by have : ¬ ((q : Int) + 1 = 0) := by omega
                      simp [this]), rfl⟩

set_option maxHeartbeats 1000000 in
theorem end_last (a : Option Addr) (n c : Nat) (w : World) :
    Calls Tryz.prog 71 #[.agg #[.slice a n c, .int .i64 n]] w fun e w' => e = .returned (.bool true) ∧ w' = (w.alloc (spotO a n c n)).alloc (spotO a n c n) := by
  go_enter Tryz.func71, Tryz.ntmps71
  go_wp2
  go_ret
  exact ⟨rfl, rfl⟩

set_option maxHeartbeats 1000000 in
theorem end_in (b off n c q : Nat) (x : Int) (w : World) (hp : q < n) (hb : b < w.heap.size) (hc : w.cell? ⟨b, off + q, none⟩ = some (.int .i64 x)) :
    Calls Tryz.prog 71 #[.agg #[.slice (some ⟨b, off, none⟩) n c, .int .i64 q]] w fun e w' => e = .returned (.bool (x == 10)) ∧ w' = (w.alloc (spotO (some ⟨b, off, none⟩) n c q)).alloc (spotO (some ⟨b, off, none⟩) n c q) := by
  have hcell := cell2 (o := .cells #[.slice (some ⟨b, off, none⟩) n c, .int .i64 q] 83) (o' := .cells #[.slice (some ⟨b, off, none⟩) n c, .int .i64 q] 83) hb hc
  go_enter Tryz.func71, Tryz.ntmps71
  go_wp2
  go_ret
  exact ⟨ret_bool (by have : ¬ ((q : Int) = n) := by omega
                      simp [this]), rfl⟩

set_option maxHeartbeats 1000000 in
theorem edge_none (a : Option Addr) (c : Nat) (w : World) :
    Calls Tryz.prog 72 #[.agg #[.slice a 0 c, .int .i64 0]] w fun e w' => e = .returned (.bool false) ∧ w' = ((w.alloc (spotO a 0 c 0)).alloc (spotO a 0 c 0)).alloc (spotO a 0 c 0) := by
  go_enter Tryz.func72, Tryz.ntmps72
  go_wp2
  go_ret
  exact ⟨rfl, rfl⟩

set_option maxHeartbeats 1000000 in
theorem edge_first (b off c m : Nat) (y : Int) (w : World) (hb : b < w.heap.size) (hy : w.cell? ⟨b, off, none⟩ = some (.int .i64 y)) :
    Calls Tryz.prog 72 #[.agg #[.slice (some ⟨b, off, none⟩) (m + 1) c, .int .i64 0]] w fun e w' => e = .returned (.bool (wordB y)) ∧ w' = ((w.alloc (spotO (some ⟨b, off, none⟩) (m + 1) c 0)).alloc (spotO (some ⟨b, off, none⟩) (m + 1) c 0)).alloc (spotO (some ⟨b, off, none⟩) (m + 1) c 0) := by
  have hcy := cell3 (o := .cells #[.slice (some ⟨b, off, none⟩) (m + 1) c, .int .i64 0] 83) (o' := .cells #[.slice (some ⟨b, off, none⟩) (m + 1) c, .int .i64 0] 83) (o'' := .cells #[.slice (some ⟨b, off, none⟩) (m + 1) c, .int .i64 0] 83) hb hy
  go_enter Tryz.func72, Tryz.ntmps72
  go_wp2_with (first | (go_at_call 30; refine (word_any _ _).mono ?_; rintro e w' ⟨rfl, rfl⟩) | go_in)
  go_ret
  exact ⟨ret_bool (by have : ¬ ((0 : Int) = (m : Int) + 1) := by omega
                      simp [this]), rfl⟩

set_option maxHeartbeats 1000000 in
theorem edge_in (b off c n q : Nat) (x y : Int) (w : World) (hq : q + 1 < n) (hm : n ≤ 30) (hb : b < w.heap.size) (hx : w.cell? ⟨b, off + q, none⟩ = some (.int .i64 x)) (hy : w.cell? ⟨b, off + (q + 1), none⟩ = some (.int .i64 y)) :
    Calls Tryz.prog 72 #[.agg #[.slice (some ⟨b, off, none⟩) n c, .int .i64 ((q : Int) + 1)]] w fun e w' => e = .returned (.bool (wordB x != wordB y)) ∧ w' = ((w.alloc (spotO (some ⟨b, off, none⟩) n c (q + 1))).alloc (spotO (some ⟨b, off, none⟩) n c (q + 1))).alloc (spotO (some ⟨b, off, none⟩) n c (q + 1)) := by
  have hcx := cell2 (o := .cells #[.slice (some ⟨b, off, none⟩) n c, .int .i64 ((q : Int) + 1)] 83) (o' := .cells #[.slice (some ⟨b, off, none⟩) n c, .int .i64 ((q : Int) + 1)] 83) hb hx
  have hcy := cell3 (o := .cells #[.slice (some ⟨b, off, none⟩) n c, .int .i64 ((q : Int) + 1)] 83) (o' := .cells #[.slice (some ⟨b, off, none⟩) n c, .int .i64 ((q : Int) + 1)] 83) (o'' := .cells #[.slice (some ⟨b, off, none⟩) n c, .int .i64 ((q : Int) + 1)] 83) hb hy
  have hne : ((q : Int) + 1 == (n : Int)) = false := by simp; omega
  have hnz : ((q : Int) + 1 == 0) = false := by simp; omega
  go_enter Tryz.func72, Tryz.ntmps72
  go_wp2_with (first | (go_at_call 30; refine (word_any _ _).mono ?_; rintro e w' ⟨rfl, rfl⟩) | go_in)
  go_ret
  exact ⟨ret_bool (by cases wordB x <;> cases wordB y <;> rfl), rfl⟩

set_option maxHeartbeats 1000000 in
theorem edge_last (b off c q : Nat) (x : Int) (w : World) (hm : q + 1 ≤ 30) (hb : b < w.heap.size) (hx : w.cell? ⟨b, off + q, none⟩ = some (.int .i64 x)) :
    Calls Tryz.prog 72 #[.agg #[.slice (some ⟨b, off, none⟩) (q + 1) c, .int .i64 ((q : Int) + 1)]] w fun e w' => e = .returned (.bool (wordB x)) ∧ w' = ((w.alloc (spotO (some ⟨b, off, none⟩) (q + 1) c (q + 1))).alloc (spotO (some ⟨b, off, none⟩) (q + 1) c (q + 1))).alloc (spotO (some ⟨b, off, none⟩) (q + 1) c (q + 1)) := by
  have hcx := cell2 (o := .cells #[.slice (some ⟨b, off, none⟩) (q + 1) c, .int .i64 ((q : Int) + 1)] 83) (o' := .cells #[.slice (some ⟨b, off, none⟩) (q + 1) c, .int .i64 ((q : Int) + 1)] 83) hb hx
  have hnz : ((q : Int) + 1 == 0) = false := by simp; omega
  go_enter Tryz.func72, Tryz.ntmps72
  go_wp2_with (first | (go_at_call 30; refine (word_any _ _).mono ?_; rintro e w' ⟨rfl, rfl⟩) | go_in)
  go_ret
  exact ⟨rfl, rfl⟩

/-! ### a text, as it lies in memory -/
def TextAt (w : World) (sl : Value) (zs : List Int) : Prop :=
  (zs = [] ∧ ∃ a c, sl = .slice a 0 c) ∨ (0 < zs.length ∧ ∃ b off c, sl = .slice (some ⟨b, off, none⟩) zs.length c ∧ b < w.heap.size ∧ ∀ j, j < zs.length → w.cell? ⟨b, off + j, none⟩ = some (.int .i64 (zs.getD j 0)))

theorem TextAt.below {w w' : World} {sl : Value} {zs : List Int} (h : TextAt w sl zs) (hB : Below w.heap.size w w') : TextAt w' sl zs := by
  rcases h with h | ⟨h1, b, off, c, h2, h3, h4⟩
  · exact .inl h
  · exact .inr ⟨h1, b, off, c, h2, Nat.lt_of_lt_of_le h3 hB.size, fun j hj => by rw [hB.cell (p := ⟨b, off + j, none⟩) h3]; exact h4 j hj⟩

def spotB (zs : List Int) (p : Nat) : Nat → Bool
  | 0 => p == 0
  | 1 => p == zs.length
  | 2 => p == 0 || zs.getD (p - 1) 0 == 10
  | 3 => p == zs.length || zs.getD p 0 == 10
  | 4 => (p != 0 && wordB (zs.getD (p - 1) 0)) != (p != zs.length && wordB (zs.getD p 0))
  | _ => !((p != 0 && wordB (zs.getD (p - 1) 0)) != (p != zs.length && wordB (zs.getD p 0)))

theorem below1 (w : World) (o : Obj) : Below w.heap.size w (w.alloc o) := (Below.refl _ _).alloc (Nat.le_refl _) o
theorem below2 (w : World) (o o' : Obj) : Below w.heap.size w ((w.alloc o).alloc o') := (below1 w o).alloc (by simp) o'
theorem below3 (w : World) (o o' o'' : Obj) : Below w.heap.size w (((w.alloc o).alloc o').alloc o'') := (below2 w o o').alloc (by simp; omega) o''

theorem edge_any (zs : List Int) (sl : Value) (p : Nat) (w : World) (h : TextAt w sl zs) (hp : p ≤ zs.length) (hm : zs.length ≤ 30) :
    Calls Tryz.prog 72 #[.agg #[sl, .int .i64 p]] w fun e w' => e = .returned (.bool (spotB zs p 4)) ∧ Below w.heap.size w w' := by
  rcases h with ⟨rfl, a, c, rfl⟩ | ⟨h1, b, off, c, rfl, hb, hc⟩
  · have hp0 : p = 0 := by simpa using hp
    subst hp0
    exact (edge_none a c w).mono fun e w' ⟨h1, h2⟩ => ⟨by rw [h1]; rfl, by rw [h2]; exact below3 _ _ _ _⟩
  · rcases p with _ | q
    · obtain ⟨m, hm'⟩ : ∃ m, zs.length = m + 1 := ⟨zs.length - 1, by omega⟩
      have hy := hc 0 h1
      rw [hm']
      refine (edge_first b off c m _ w hb hy).mono fun e w' ⟨h1, h2⟩ => ⟨?_, by rw [h2]; exact below3 _ _ _ _⟩
      rw [h1]; simp [spotB, hm']
    · by_cases hl : q + 1 = zs.length
      · have hx := hc q (by omega)
        rw [← hl]
        refine (edge_last b off c q _ w (by omega) hb hx).mono fun e w' ⟨h1, h2⟩ => ⟨?_, by rw [h2]; exact below3 _ _ _ _⟩
        rw [h1]; simp [spotB, ← hl]
      · have hx := hc q (by omega)
        have hy := hc (q + 1) (by omega)
        refine (edge_in b off c zs.length q _ _ w (by omega) hm hb hx hy).mono fun e w' ⟨h1, h2⟩ => ⟨?_, by rw [h2]; exact below3 _ _ _ _⟩
        rw [h1]; simp [spotB, hl]

set_option maxHeartbeats 1000000 in
theorem noEdge_any (zs : List Int) (sl : Value) (p : Nat) (w : World) (h : TextAt w sl zs) (hp : p ≤ zs.length) (hm : zs.length ≤ 30) :
    Calls Tryz.prog 73 #[.agg #[sl, .int .i64 p]] w fun e w' => e = .returned (.bool (spotB zs p 5)) ∧ Below w.heap.size w w' := by
  have hc := fun hh => edge_any zs sl p (w.alloc (.cells #[sl, .int .i64 p] 83)) (h.below (below1 _ _)) hp hh
  go_enter Tryz.func73, Tryz.ntmps73
  go_wp2_with (first | (go_at_call 72; refine (hc hm).mono ?_; rintro e w' ⟨rfl, hB⟩) | go_in)
  go_ret
  exact ⟨rfl, (below1 _ _).trans (hB.mono (by simp))⟩

theorem spot_any (k : Nat) (hk : k < 6) (zs : List Int) (sl : Value) (p : Nat) (w : World) (h : TextAt w sl zs) (hp : p ≤ zs.length) (hm : zs.length ≤ 30) :
    Calls Tryz.prog (68 + k) #[.agg #[sl, .int .i64 p]] w fun e w' => e = .returned (.bool (spotB zs p k)) ∧ Below w.heap.size w w' := by
  match k, hk with
  | 0, _ => exact (first_any sl p w).mono fun e w' ⟨h1, h2⟩ => ⟨by rw [h1]; exact ret_bool (by rw [Bool.eq_iff_iff]; simp [spotB]), by rw [h2]; exact below1 _ _⟩
  | 1, _ =>
    have : ∃ a c, sl = .slice a zs.length c := by
      rcases h with ⟨rfl, a, c, rfl⟩ | ⟨_, b, off, c, rfl, _⟩ <;> exact ⟨_, _, rfl⟩
    obtain ⟨a, c, rfl⟩ := this
    exact (last_any a zs.length c p w).mono fun e w' ⟨h1, h2⟩ => ⟨by rw [h1]; exact ret_bool (by rw [Bool.eq_iff_iff]; simp only [spotB, beq_iff_eq]; omega), by rw [h2]; exact below1 _ _⟩
  | 2, _ =>
    rcases p with _ | q
    · have : ∃ a c, sl = .slice a zs.length c := by
        rcases h with ⟨rfl, a, c, rfl⟩ | ⟨_, b, off, c, rfl, _⟩ <;> exact ⟨_, _, rfl⟩
      obtain ⟨a, c, rfl⟩ := this
      exact (begin_zero a zs.length c w).mono fun e w' ⟨h1, h2⟩ => ⟨by rw [h1]; rfl, by rw [h2]; exact below2 _ _ _⟩
    · rcases h with ⟨rfl, a, c, rfl⟩ | ⟨h1, b, off, c, rfl, hb, hc⟩
      · simp at hp
      · exact (begin_succ b off zs.length c q _ w (by omega) hm hb (hc q (by omega))).mono fun e w' ⟨h1, h2⟩ => ⟨by rw [h1]; rfl, by rw [h2]; exact below2 _ _ _⟩
  | 3, _ =>
    by_cases hl : p = zs.length
    · have : ∃ a c, sl = .slice a zs.length c := by
        rcases h with ⟨rfl, a, c, rfl⟩ | ⟨_, b, off, c, rfl, _⟩ <;> exact ⟨_, _, rfl⟩
      obtain ⟨a, c, rfl⟩ := this
      subst hl
      exact (end_last a zs.length c w).mono fun e w' ⟨h1, h2⟩ => ⟨by rw [h1]; simp [spotB], by rw [h2]; exact below2 _ _ _⟩
    · rcases h with ⟨rfl, a, c, rfl⟩ | ⟨h1, b, off, c, rfl, hb, hc⟩
      · exact absurd (by simpa using hp) hl
      · exact (end_in b off zs.length c p _ w (by omega) hb (hc p (by omega))).mono fun e w' ⟨h1, h2⟩ => ⟨by rw [h1]; simp [spotB, hl], by rw [h2]; exact below2 _ _ _⟩
  | 4, _ => exact edge_any zs sl p w h hp hm
  | 5, _ => exact noEdge_any zs sl p w h hp hm
end Go.Proofs.YtmbgnmnaonjdgaaGreatDoor
