/- PART OF A PROOF over the given program: Lk4. See the last text of the claim for the statement. -/
import Derived.Test.YtmbgnmnaonjdgaaGreatDoorLk3
namespace Go.Proofs.YtmbgnmnaonjdgaaGreatDoor
open Go Go.RowKit

def addIf (x : Int) (b : Bool) (n : Int) : Int := x + if b = true then n else 0
theorem addIf_le {x n m : Int} {b : Bool} (hx : 0 ≤ x ∧ x ≤ m) (hn : 0 ≤ n) : 0 ≤ addIf x b n ∧ addIf x b n ≤ m + n := by unfold addIf; split <;> omega

def reedSum (zs : List Int) (p : Nat) : Int := addIf (addIf (addIf (addIf (addIf (addIf 0 (spotB zs p 0) 1) (spotB zs p 1) 2) (spotB zs p 2) 4) (spotB zs p 3) 8) (spotB zs p 4) 16) (spotB zs p 5) 32

theorem cl_next (B B0 m m' : Nat) (b : Bool) (x n : Int) (w w0 : World) (hB : B0 ≤ B) (hx : 0 ≤ x ∧ x ≤ m) (hm : m + n ≤ m') (hm2 : m ≤ 63) (hn : 0 ≤ n ∧ n ≤ 100) (hc : w.cell? ⟨B, 0, none⟩ = some (.int .i64 x)) (hf : w.frozen? ⟨B, 0, none⟩ = false) (hb : Below B0 w0 w) :
    Calls Tryz.prog 52 #[.bool b, .int .i64 n, .pointer (some ⟨B, 0, none⟩)] w fun e w' => e = .returned (.tuple #[]) ∧ w'.cell? ⟨B, 0, none⟩ = some (.int .i64 (addIf x b n)) ∧ w'.frozen? ⟨B, 0, none⟩ = false ∧ Below B0 w0 w' ∧ (0 ≤ addIf x b n ∧ addIf x b n ≤ m') := by
  refine (cl_any B B0 b x n w hB ⟨hx.1, by omega⟩ hn hc hf).mono fun e w' ⟨h1, h2, h3, h4⟩ => ⟨h1, h2, h3, hb.trans h4, ?_⟩
  have := addIf_le (b := b) hx hn.1
  exact ⟨this.1, by omega⟩

set_option maxRecDepth 100000 in
set_option maxHeartbeats 8000000 in
theorem reed_none (a : Option Addr) (c : Nat) (w : World) :
    Calls Tryz.prog 9 #[.slice a 0 c, .int .i64 0] w fun e w' => e = .returned (.int .i64 (reedSum [] 0)) ∧ Below w.heap.size w w' := by
  have hmf : ∀ (fn : Fn) (first cap : Array Value) (w : World), (Instr.makeFunc fn first cap).run Tryz.prog w = .ok (.func fn first cap) w := fun _ _ _ _ => rfl
  have hb0 : Below w.heap.size w (w.alloc (.cells #[.int .i64 0] 3)) := below1 _ _
  have g0 : (w.alloc (.cells #[.int .i64 0] 3)).cell? ⟨w.heap.size, 0, none⟩ = some (.int .i64 0) := by rw [World.cell?_alloc_at _ _ _ _ rfl]; rfl
  have f0 : (w.alloc (.cells #[.int .i64 0] 3)).frozen? ⟨w.heap.size, 0, none⟩ = false := World.frozen?_alloc_at _ _ _ _ rfl
  go_enter Tryz.func9, Tryz.ntmps9
  go_wp2_with fail
  refine (cl_next w.heap.size w.heap.size 0 1 _ 0 1 _ w (Nat.le_refl _) (by omega) (by omega) (by omega) (by omega) g0 f0 hb0).mono ?_
  clear g0 f0 hb0
  rintro e w1 ⟨rfl, g1, f1, b1, m1⟩
  go_wp2_with (go_at_call 31; refine (reedWord_any _ _).mono ?_; rintro e w' ⟨rfl, rfl⟩)
  refine (cl_next w.heap.size w.heap.size 1 3 _ _ 2 _ w (Nat.le_refl _) m1 (by omega) (by omega) (by omega) g1 f1 b1).mono ?_
  clear g1 f1 b1
  rintro e w2 ⟨rfl, g2, f2, b2, m2⟩
  go_wp2_with (go_at_call 31; refine (reedWord_any _ _).mono ?_; rintro e w' ⟨rfl, rfl⟩)
  refine (cl_next w.heap.size w.heap.size 3 7 _ _ 4 _ w (Nat.le_refl _) m2 (by omega) (by omega) (by omega) g2 f2 b2).mono ?_
  clear g2 f2 b2
  rintro e w3 ⟨rfl, g3, f3, b3, m3⟩
  go_wp2_with (go_at_call 31; refine (reedWord_any _ _).mono ?_; rintro e w' ⟨rfl, rfl⟩)
  refine (cl_next w.heap.size w.heap.size 7 15 _ _ 8 _ w (Nat.le_refl _) m3 (by omega) (by omega) (by omega) g3 f3 b3).mono ?_
  clear g3 f3 b3
  rintro e w4 ⟨rfl, g4, f4, b4, m4⟩
  go_wp2_with (go_at_call 31; refine (reedWord_any _ _).mono ?_; rintro e w' ⟨rfl, rfl⟩)
  refine (cl_next w.heap.size w.heap.size 15 31 _ _ 16 _ w (Nat.le_refl _) m4 (by omega) (by omega) (by omega) g4 f4 b4).mono ?_
  clear g4 f4 b4
  rintro e w5 ⟨rfl, g5, f5, b5, m5⟩
  go_wp2_with (go_at_call 31; refine (reedWord_any _ _).mono ?_; rintro e w' ⟨rfl, rfl⟩)
  refine (cl_next w.heap.size w.heap.size 31 63 _ _ 32 _ w (Nat.le_refl _) m5 (by omega) (by omega) (by omega) g5 f5 b5).mono ?_
  clear g5 f5 b5
  rintro e w6 ⟨rfl, g6, f6, b6, m6⟩
  go_wp2
  go_ret
  exact ⟨rfl, b6⟩

set_option maxRecDepth 100000 in
set_option maxHeartbeats 8000000 in
theorem reed_first (b off c m : Nat) (y : Int) (w : World) (hb : b < w.heap.size) (hy : w.cell? ⟨b, off, none⟩ = some (.int .i64 y)) :
    Calls Tryz.prog 9 #[.slice (some ⟨b, off, none⟩) (m + 1) c, .int .i64 0] w fun e w' => e = .returned (.int .i64 (addIf (addIf (addIf (addIf (addIf (addIf 0 true 1) false 2) true 4) (y == 10) 8) (wordB y) 16) (!wordB y) 32)) ∧ Below w.heap.size w w' := by
  have hmf : ∀ (fn : Fn) (first cap : Array Value) (w : World), (Instr.makeFunc fn first cap).run Tryz.prog w = .ok (.func fn first cap) w := fun _ _ _ _ => rfl
  have hb0 : Below w.heap.size w (w.alloc (.cells #[.int .i64 0] 3)) := below1 _ _
  have g0 : (w.alloc (.cells #[.int .i64 0] 3)).cell? ⟨w.heap.size, 0, none⟩ = some (.int .i64 0) := by rw [World.cell?_alloc_at _ _ _ _ rfl]; rfl
  have f0 : (w.alloc (.cells #[.int .i64 0] 3)).frozen? ⟨w.heap.size, 0, none⟩ = false := World.frozen?_alloc_at _ _ _ _ rfl
  go_enter Tryz.func9, Tryz.ntmps9
  go_wp2_with fail
  refine (cl_next w.heap.size w.heap.size 0 1 _ 0 1 _ w (Nat.le_refl _) (by omega) (by omega) (by omega) (by omega) g0 f0 hb0).mono ?_
  clear g0 f0 hb0
  rintro e w1 ⟨rfl, g1, f1, b1, m1⟩
  go_wp2_with (go_at_call 31; refine (reedWord_any _ _).mono ?_; rintro e w' ⟨rfl, rfl⟩)
  refine (cl_next w.heap.size w.heap.size 1 3 _ _ 2 _ w (Nat.le_refl _) m1 (by omega) (by omega) (by omega) g1 f1 b1).mono ?_
  clear g1 f1 b1
  rintro e w2 ⟨rfl, g2, f2, b2, m2⟩
  go_wp2_with (go_at_call 31; refine (reedWord_any _ _).mono ?_; rintro e w' ⟨rfl, rfl⟩)
  refine (cl_next w.heap.size w.heap.size 3 7 _ _ 4 _ w (Nat.le_refl _) m2 (by omega) (by omega) (by omega) g2 f2 b2).mono ?_
  clear g2 f2 b2
  rintro e w3 ⟨rfl, g3, f3, b3, m3⟩
  have cy := (b3.cell (p := ⟨b, off, none⟩) hb).trans hy
  go_wp2_with (go_at_call 31; refine (reedWord_any _ _).mono ?_; rintro e w' ⟨rfl, rfl⟩)
  refine (cl_next w.heap.size w.heap.size 7 15 _ _ 8 _ w (Nat.le_refl _) m3 (by omega) (by omega) (by omega) g3 f3 b3).mono ?_
  clear g3 f3 b3
  rintro e w4 ⟨rfl, g4, f4, b4, m4⟩
  have cy := (b4.cell (p := ⟨b, off, none⟩) hb).trans hy
  go_wp2_with (go_at_call 31; refine (reedWord_any _ _).mono ?_; rintro e w' ⟨rfl, rfl⟩)
  refine (cl_next w.heap.size w.heap.size 15 31 _ _ 16 _ w (Nat.le_refl _) m4 (by omega) (by omega) (by omega) g4 f4 b4).mono ?_
  clear g4 f4 b4
  rintro e w5 ⟨rfl, g5, f5, b5, m5⟩
  go_wp2_with (go_at_call 31; refine (reedWord_any _ _).mono ?_; rintro e w' ⟨rfl, rfl⟩)
  refine (cl_next w.heap.size w.heap.size 31 63 _ _ 32 _ w (Nat.le_refl _) m5 (by omega) (by omega) (by omega) g5 f5 b5).mono ?_
  clear g5 f5 b5
  rintro e w6 ⟨rfl, g6, f6, b6, m6⟩
  go_wp2
  go_ret
  have hne : ((0 : Int) == (m : Int) + 1) = false := by simp; omega
  exact ⟨by simp only [hne, Bool.false_or]; rfl, b6⟩

set_option maxRecDepth 100000 in
set_option maxHeartbeats 8000000 in
theorem reed_in (b off c n q : Nat) (x y : Int) (w : World) (hq : q + 1 < n) (hm : n ≤ 30) (hb : b < w.heap.size) (hx : w.cell? ⟨b, off + q, none⟩ = some (.int .i64 x)) (hy : w.cell? ⟨b, off + (q + 1), none⟩ = some (.int .i64 y)) :
    Calls Tryz.prog 9 #[.slice (some ⟨b, off, none⟩) n c, .int .i64 ((q : Int) + 1)] w fun e w' => e = .returned (.int .i64 (addIf (addIf (addIf (addIf (addIf (addIf 0 false 1) false 2) (x == 10) 4) (y == 10) 8) (wordB x != wordB y) 16) (!(wordB x != wordB y)) 32)) ∧ Below w.heap.size w w' := by
  have hmf : ∀ (fn : Fn) (first cap : Array Value) (w : World), (Instr.makeFunc fn first cap).run Tryz.prog w = .ok (.func fn first cap) w := fun _ _ _ _ => rfl
  have hq1 : ¬ ((q : Int) + 1 < 0) := by omega
  have hq2 : ¬ ((n : Int) < (q : Int) + 1) := by omega
  have hb0 : Below w.heap.size w (w.alloc (.cells #[.int .i64 0] 3)) := below1 _ _
  have g0 : (w.alloc (.cells #[.int .i64 0] 3)).cell? ⟨w.heap.size, 0, none⟩ = some (.int .i64 0) := by rw [World.cell?_alloc_at _ _ _ _ rfl]; rfl
  have f0 : (w.alloc (.cells #[.int .i64 0] 3)).frozen? ⟨w.heap.size, 0, none⟩ = false := World.frozen?_alloc_at _ _ _ _ rfl
  go_enter Tryz.func9, Tryz.ntmps9
  go_wp2_with fail
  refine (cl_next w.heap.size w.heap.size 0 1 _ 0 1 _ w (Nat.le_refl _) (by omega) (by omega) (by omega) (by omega) g0 f0 hb0).mono ?_
  clear g0 f0 hb0
  rintro e w1 ⟨rfl, g1, f1, b1, m1⟩
  go_wp2_with (go_at_call 31; refine (reedWord_any _ _).mono ?_; rintro e w' ⟨rfl, rfl⟩)
  refine (cl_next w.heap.size w.heap.size 1 3 _ _ 2 _ w (Nat.le_refl _) m1 (by omega) (by omega) (by omega) g1 f1 b1).mono ?_
  clear g1 f1 b1
  rintro e w2 ⟨rfl, g2, f2, b2, m2⟩
  have cx := (b2.cell (p := ⟨b, off + q, none⟩) hb).trans hx
  go_wp2_with (go_at_call 31; refine (reedWord_any _ _).mono ?_; rintro e w' ⟨rfl, rfl⟩)
  refine (cl_next w.heap.size w.heap.size 3 7 _ _ 4 _ w (Nat.le_refl _) m2 (by omega) (by omega) (by omega) g2 f2 b2).mono ?_
  clear g2 f2 b2
  rintro e w3 ⟨rfl, g3, f3, b3, m3⟩
  have cy := (b3.cell (p := ⟨b, off + (q + 1), none⟩) hb).trans hy
  go_wp2_with (go_at_call 31; refine (reedWord_any _ _).mono ?_; rintro e w' ⟨rfl, rfl⟩)
  refine (cl_next w.heap.size w.heap.size 7 15 _ _ 8 _ w (Nat.le_refl _) m3 (by omega) (by omega) (by omega) g3 f3 b3).mono ?_
  clear g3 f3 b3
  rintro e w4 ⟨rfl, g4, f4, b4, m4⟩
  have cx := (b4.cell (p := ⟨b, off + q, none⟩) hb).trans hx
  have cy := (b4.cell (p := ⟨b, off + (q + 1), none⟩) hb).trans hy
  go_wp2_with (go_at_call 31; refine (reedWord_any _ _).mono ?_; rintro e w' ⟨rfl, rfl⟩)
  refine (cl_next w.heap.size w.heap.size 15 31 _ _ 16 _ w (Nat.le_refl _) m4 (by omega) (by omega) (by omega) g4 f4 b4).mono ?_
  clear g4 f4 b4
  rintro e w5 ⟨rfl, g5, f5, b5, m5⟩
  go_wp2_with (go_at_call 31; refine (reedWord_any _ _).mono ?_; rintro e w' ⟨rfl, rfl⟩)
  refine (cl_next w.heap.size w.heap.size 31 63 _ _ 32 _ w (Nat.le_refl _) m5 (by omega) (by omega) (by omega) g5 f5 b5).mono ?_
  clear g5 f5 b5
  rintro e w6 ⟨rfl, g6, f6, b6, m6⟩
  go_wp2
  go_ret
  have hne : ((q : Int) + 1 == (n : Int)) = false := by simp; omega
  have hnz : ((q : Int) + 1 == 0) = false := by simp; omega
  refine ⟨?_, b6⟩
  simp only [hne, hnz, Bool.false_or]
  generalize wordB x = bx
  generalize wordB y = bz
  cases bx <;> cases bz <;> rfl

set_option maxRecDepth 100000 in
set_option maxHeartbeats 8000000 in
theorem reed_last (b off c q : Nat) (x : Int) (w : World) (hm : q + 1 ≤ 30) (hb : b < w.heap.size) (hx : w.cell? ⟨b, off + q, none⟩ = some (.int .i64 x)) :
    Calls Tryz.prog 9 #[.slice (some ⟨b, off, none⟩) (q + 1) c, .int .i64 ((q : Int) + 1)] w fun e w' => e = .returned (.int .i64 (addIf (addIf (addIf (addIf (addIf (addIf 0 false 1) true 2) (x == 10) 4) true 8) (wordB x) 16) (!wordB x) 32)) ∧ Below w.heap.size w w' := by
  have hmf : ∀ (fn : Fn) (first cap : Array Value) (w : World), (Instr.makeFunc fn first cap).run Tryz.prog w = .ok (.func fn first cap) w := fun _ _ _ _ => rfl
  have hq1 : ¬ ((q : Int) + 1 < 0) := by omega
  have hb0 : Below w.heap.size w (w.alloc (.cells #[.int .i64 0] 3)) := below1 _ _
  have g0 : (w.alloc (.cells #[.int .i64 0] 3)).cell? ⟨w.heap.size, 0, none⟩ = some (.int .i64 0) := by rw [World.cell?_alloc_at _ _ _ _ rfl]; rfl
  have f0 : (w.alloc (.cells #[.int .i64 0] 3)).frozen? ⟨w.heap.size, 0, none⟩ = false := World.frozen?_alloc_at _ _ _ _ rfl
  go_enter Tryz.func9, Tryz.ntmps9
  go_wp2_with fail
  refine (cl_next w.heap.size w.heap.size 0 1 _ 0 1 _ w (Nat.le_refl _) (by omega) (by omega) (by omega) (by omega) g0 f0 hb0).mono ?_
  clear g0 f0 hb0
  rintro e w1 ⟨rfl, g1, f1, b1, m1⟩
  go_wp2_with (go_at_call 31; refine (reedWord_any _ _).mono ?_; rintro e w' ⟨rfl, rfl⟩)
  refine (cl_next w.heap.size w.heap.size 1 3 _ _ 2 _ w (Nat.le_refl _) m1 (by omega) (by omega) (by omega) g1 f1 b1).mono ?_
  clear g1 f1 b1
  rintro e w2 ⟨rfl, g2, f2, b2, m2⟩
  have cx := (b2.cell (p := ⟨b, off + q, none⟩) hb).trans hx
  go_wp2_with (go_at_call 31; refine (reedWord_any _ _).mono ?_; rintro e w' ⟨rfl, rfl⟩)
  refine (cl_next w.heap.size w.heap.size 3 7 _ _ 4 _ w (Nat.le_refl _) m2 (by omega) (by omega) (by omega) g2 f2 b2).mono ?_
  clear g2 f2 b2
  rintro e w3 ⟨rfl, g3, f3, b3, m3⟩
  go_wp2_with (go_at_call 31; refine (reedWord_any _ _).mono ?_; rintro e w' ⟨rfl, rfl⟩)
  refine (cl_next w.heap.size w.heap.size 7 15 _ _ 8 _ w (Nat.le_refl _) m3 (by omega) (by omega) (by omega) g3 f3 b3).mono ?_
  clear g3 f3 b3
  rintro e w4 ⟨rfl, g4, f4, b4, m4⟩
  have cx := (b4.cell (p := ⟨b, off + q, none⟩) hb).trans hx
  go_wp2_with (go_at_call 31; refine (reedWord_any _ _).mono ?_; rintro e w' ⟨rfl, rfl⟩)
  refine (cl_next w.heap.size w.heap.size 15 31 _ _ 16 _ w (Nat.le_refl _) m4 (by omega) (by omega) (by omega) g4 f4 b4).mono ?_
  clear g4 f4 b4
  rintro e w5 ⟨rfl, g5, f5, b5, m5⟩
  go_wp2_with (go_at_call 31; refine (reedWord_any _ _).mono ?_; rintro e w' ⟨rfl, rfl⟩)
  refine (cl_next w.heap.size w.heap.size 31 63 _ _ 32 _ w (Nat.le_refl _) m5 (by omega) (by omega) (by omega) g5 f5 b5).mono ?_
  clear g5 f5 b5
  rintro e w6 ⟨rfl, g6, f6, b6, m6⟩
  go_wp2
  go_ret
  have hnz : ((q : Int) + 1 == 0) = false := by simp; omega
  exact ⟨by simp only [hnz, Bool.false_or]; rfl, b6⟩

set_option maxHeartbeats 1000000 in
theorem reed_neg (a : Option Addr) (n c : Nat) (w : World) : Calls Tryz.prog 9 #[.slice a n c, .int .i64 (-1)] w fun e w' => e = .returned (.int .i64 0) ∧ w' = w := by
  go_enter Tryz.func9, Tryz.ntmps9
  go_wp2
  go_ret
  exact ⟨rfl, rfl⟩

set_option maxHeartbeats 1000000 in
theorem reed_past (a : Option Addr) (n c : Nat) (w : World) : Calls Tryz.prog 9 #[.slice a n c, .int .i64 ((n : Int) + 1)] w fun e w' => e = .returned (.int .i64 0) ∧ w' = w := by
  have h0 : ¬ ((n : Int) + 1 < 0) := by omega
  have h1 : (n : Int) < (n : Int) + 1 := by omega
  go_enter Tryz.func9, Tryz.ntmps9
  go_wp2
  go_ret
  exact ⟨rfl, rfl⟩

theorem reed_any (zs : List Int) (sl : Value) (p : Nat) (w : World) (h : TextAt w sl zs) (hp : p ≤ zs.length) (hm : zs.length ≤ 30) :
    Calls Tryz.prog 9 #[sl, .int .i64 p] w fun e w' => e = .returned (.int .i64 (reedSum zs p)) ∧ Below w.heap.size w w' := by
  rcases h with ⟨rfl, a, c, rfl⟩ | ⟨h1, b, off, c, rfl, hb, hc⟩
  · have hp0 : p = 0 := by simpa using hp
    subst hp0
    exact reed_none a c w
  · rcases p with _ | q
    · obtain ⟨m, hm'⟩ : ∃ m, zs.length = m + 1 := ⟨zs.length - 1, by omega⟩
      have hy := hc 0 h1
      rw [hm']
      refine (reed_first b off c m _ w hb hy).mono fun e w' ⟨h1, h2⟩ => ⟨?_, h2⟩
      rw [h1]; simp [reedSum, spotB, hm']
    · by_cases hl : q + 1 = zs.length
      · have hx := hc q (by omega)
        rw [← hl]
        refine (reed_last b off c q _ w (by omega) hb hx).mono fun e w' ⟨h1, h2⟩ => ⟨?_, h2⟩
        rw [h1]; simp [reedSum, spotB, ← hl]
      · have hx := hc q (by omega)
        have hy := hc (q + 1) (by omega)
        refine (reed_in b off c zs.length q _ _ w (by omega) hm hb hx hy).mono fun e w' ⟨h1, h2⟩ => ⟨?_, h2⟩
        have hl1 : (q + 1 == zs.length) = false := by simpa using hl
        have hl2 : (q + 1 != zs.length) = true := by simp [hl1, bne]
        rw [h1]; simp [reedSum, spotB, hl1, hl2]

/-- THE PLAIN LAW OF A PLACE. -/
theorem at_reed (zs : List Int) (p : Nat) : atAcc zs p 6 = reedSum zs p := by
  simp only [atAcc, reedSum]
  generalize spotB zs p 0 = b0
  generalize spotB zs p 1 = b1
  generalize spotB zs p 2 = b2
  generalize spotB zs p 3 = b3
  generalize spotB zs p 4 = b4
  generalize spotB zs p 5 = b5
  revert b0 b1 b2 b3 b4 b5
  decide
end Go.Proofs.YtmbgnmnaonjdgaaGreatDoor
