/- PART OF A PROOF over the given program: KpO. See the last text of the claim for the statement. -/
import Derived.Test.YtmbgnmnaonjdgaaGreatDoorKp1
namespace Go.Own
open Go Go.Eng Go.RowKit

/-- OF WHAT WAS THERE ONLY THE LISTED BLOCKS MAY HAVE TURNED. -/
structure Only (ks : List Nat) (w w' : World) : Prop where
  os : w'.os = w.os
  tape : w'.tape = w.tape
  output : w'.output = w.output
  size : w.heap.size ≤ w'.heap.size
  block : ∀ k, k < w.heap.size → k ∉ ks → w'.heap[k]? = w.heap[k]?

theorem Only.refl (ks : List Nat) (w : World) : Only ks w w := ⟨rfl, rfl, rfl, Nat.le_refl _, fun _ _ _ => rfl⟩
theorem Only.mono {ks ks' : List Nat} {w w' : World} (h : Only ks w w') (hs : ∀ k ∈ ks, k ∈ ks') : Only ks' w w' := ⟨h.os, h.tape, h.output, h.size, fun k hk hn => h.block k hk fun e => hn (hs k e)⟩
/-- what the second may turn is either listed, or was not there. -/
theorem Only.trans {ks ks' : List Nat} {a b c : World} (h : Only ks a b) (g : Only ks' b c) (hs : ∀ k ∈ ks', k < a.heap.size → k ∈ ks) : Only ks a c :=
  ⟨g.os.trans h.os, g.tape.trans h.tape, g.output.trans h.output, Nat.le_trans h.size g.size, fun k hk hn => (g.block k (Nat.lt_of_lt_of_le hk h.size) fun e => hn (hs k e hk)).trans (h.block k hk hn)⟩
theorem Only.of_grownBy {w w' : World} {row : Option Nat} (h : w.grownBy w' row) : Only row.toList w w' := ⟨h.os, h.tape, h.output, h.size, fun k hk hn => h.block k hk fun e => hn (by rw [← e]; simp)⟩
theorem Only.alloc {ks : List Nat} {a w : World} (h : Only ks a w) (o : Obj) : Only ks a (w.alloc o) :=
  ⟨h.os, h.tape, h.output, by simp; have := h.size; omega, fun k hk hn => (Below.heap_alloc w o k (Nat.lt_of_lt_of_le hk h.size)).trans (h.block k hk hn)⟩
theorem Only.setCell {ks : List Nat} {a w : World} (h : Only ks a w) (p : Addr) (v : Value) (hp : p.block < a.heap.size → p.block ∈ ks) : Only ks a (w.setCell p v) :=
  ⟨h.os, h.tape, h.output, by simp; exact h.size, fun k hk hn => (Below.heap_setCell w p v k fun e => hn (e ▸ hp (e ▸ hk))).trans (h.block k hk hn)⟩
theorem Only.drew {ks : List Nat} {a w : World} (h : Only ks a w) : Only ks a w.drew := ⟨h.os, h.tape, h.output, h.size, h.block⟩
theorem Only.below {ks : List Nat} {w w' : World} {B : Nat} (h : Only ks w w') (hB : B ≤ w.heap.size) (hk : ∀ k ∈ ks, B ≤ k) : Below B w w' :=
  ⟨h.os, h.tape, h.output, h.size, fun k hlt => h.block k (by omega) fun e => by have := hk k e; omega⟩
theorem Only.cell {ks : List Nat} {w w' : World} (h : Only ks w w') {a : Addr} {v : Value} (hc : w.cell? a = some v) (hn : a.block ∉ ks) (hlt : a.block < w.heap.size) : w'.cell? a = some v := by
  rw [World.cell?_of_block (h.block _ hlt hn)]; exact hc
theorem Only.frozen {ks : List Nat} {w w' : World} (h : Only ks w w') {a : Addr} {b : Bool} (hc : w.frozen? a = b) (hn : a.block ∉ ks) (hlt : a.block < w.heap.size) : w'.frozen? a = b := by
  rw [World.frozen?_of_block (h.block _ hlt hn)]; exact hc
theorem Row.only {ks : List Nat} {w w' : World} {e : TypeId} {v : Value} {l : List Value} (h : Row w e v l) (ho : Only ks w w') (hn : ∀ b, v.ownBlock = some b → b ∉ ks) : Row w' e v l := by
  have hlt := fun b => h.lt (b := b)
  rcases h with h | ⟨b, cap, cur, rfl, hh, h1, h2, h3⟩
  · exact .inl h
  · exact .inr ⟨b, cap, cur, rfl, by rw [ho.block b (hlt b rfl) (hn b rfl)]; exact hh, h1, h2, h3⟩

/-- a store into a row. -/
theorem Row.setCell {w : World} {e : TypeId} {b n cap : Nat} {l : List Value} (h : Row w e (.slice (some ⟨b, 0, none⟩) n cap) l) {i : Nat} (hi : i < l.length) (x : Value) :
    Row (w.setCell ⟨b, i, none⟩ x) e (.slice (some ⟨b, 0, none⟩) n cap) (l.set i x) := by
  rcases h with ⟨h, _⟩ | ⟨b', cap', cur, hv, hh, h1, h2, h3⟩
  · cases h
  · cases hv
    refine .inr ⟨b, cap, cur.setIfInBounds i x, by simp, ?_, by simpa using h1, by simpa using h2, fun j y hj => ?_⟩
    · have hlt : b < w.heap.size := by
        rcases Nat.lt_or_ge b w.heap.size with h' | h'
        · exact h'
        · simp [Array.getElem?_eq_none h'] at hh
      have hg : w.heap[b] = .cells cur e (0, 0) := by
        rw [Array.getElem?_eq_getElem hlt] at hh
        exact Option.some.inj hh
      simp [World.setCell, hlt, Array.getElem_modify, hg]
    · rw [List.getElem?_set] at hj
      by_cases hij : i = j
      · subst hij
        simp only [if_true] at hj
        rw [if_pos hi] at hj
        cases hj
        rw [Array.getElem?_setIfInBounds_self_of_lt (by omega)]
      · rw [if_neg hij] at hj
        rw [Array.getElem?_setIfInBounds_ne hij]
        exact h3 j y hj

/-- what is left when a row is cut. -/
theorem Row.cut {w : World} {e : TypeId} {a : Option Addr} {n cap : Nat} {l : List Value} (h : Row w e (.slice a n cap) l) {m : Nat} (hm : m ≤ l.length) : Row w e (.slice a m cap) (l.take m) := by
  rcases h with ⟨h, rfl⟩ | ⟨b', cap', cur, hv, hh, h1, h2, h3⟩
  · cases h
    have : m = 0 := by simpa using hm
    subst this
    exact .inl ⟨rfl, rfl⟩
  · cases hv
    refine .inr ⟨b', cap, cur, by simp; omega, hh, by simp; omega, h2, fun j y hj => ?_⟩
    rw [List.getElem?_take] at hj
    split at hj
    · exact h3 j y hj
    · simp at hj
end Go.Own
