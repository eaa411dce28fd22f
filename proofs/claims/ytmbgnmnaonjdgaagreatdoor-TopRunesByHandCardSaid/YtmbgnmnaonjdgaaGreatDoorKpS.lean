/- PART OF A PROOF over the given program: KpS. See the last text of the claim for the statement. -/
import Derived.Test.YtmbgnmnaonjdgaaGreatDoorKpO
namespace Go.Own
open Go Go.Eng Go.RowKit

/-- WHO OWNS WHAT: blocks at or above base, below n, no two the same. -/
structure Sep (base n : Nat) (os : List (Option Nat)) : Prop where
  lo : ∀ o ∈ os, ∀ b, o = some b → base ≤ b ∧ b < n
  ne : ∀ (i j : Nat) (b c : Nat), os[i]? = some (some b) → os[j]? = some (some c) → i ≠ j → b ≠ c

/-- what became of a row's block: the old one, none, or one that was not there. -/
def Turned (n : Nat) (o o' : Option Nat) : Prop := o' = o ∨ o' = none ∨ ∃ b, o' = some b ∧ n ≤ b

theorem Sep.grow {base n n' : Nat} {os : List (Option Nat)} (h : Sep base n os) (hn : n ≤ n') : Sep base n' os :=
  ⟨fun o ho b hb => ⟨(h.lo o ho b hb).1, Nat.lt_of_lt_of_le (h.lo o ho b hb).2 hn⟩, h.ne⟩

theorem Sep.get {base n : Nat} {os : List (Option Nat)} (h : Sep base n os) {i b : Nat} (hi : os[i]? = some (some b)) : base ≤ b ∧ b < n :=
  h.lo _ (List.mem_of_getElem? hi) b rfl

theorem Sep.set {base n n' : Nat} {os : List (Option Nat)} (h : Sep base n os) {i : Nat} {o o' : Option Nat} (hi : os[i]? = some o) (ht : Turned n o o') (hb : base ≤ n) (hn : n ≤ n') (hlt : ∀ b, o' = some b → b < n') : Sep base n' (os.set i o') := by
  have hold : ∀ b, o' = some b → (o = some b ∧ base ≤ b ∧ b < n) ∨ n ≤ b := fun b hob => by
    rcases ht with h' | h' | ⟨b', h', hle⟩
    · have e : o = some b := by rw [← h']; exact hob
      exact .inl ⟨e, h.lo o (List.mem_of_getElem? hi) b e⟩
    · rw [h'] at hob; cases hob
    · rw [h'] at hob; cases hob; exact .inr hle
  have hil : i < os.length := by
    rcases Nat.lt_or_ge i os.length with h' | h'
    · exact h'
    · rw [List.getElem?_eq_none h'] at hi; cases hi
  refine ⟨fun x hx b hxb => ?_, fun j k b c hj hk hjk => ?_⟩
  · rcases List.mem_or_eq_of_mem_set hx with hx | hx
    · exact ⟨(h.lo x hx b hxb).1, Nat.lt_of_lt_of_le (h.lo x hx b hxb).2 hn⟩
    · subst hx
      rcases hold b hxb with ⟨_, q1, q2⟩ | q
      · exact ⟨q1, hlt b hxb⟩
      · exact ⟨Nat.le_trans hb q, hlt b hxb⟩
  · rw [List.getElem?_set] at hj hk
    by_cases e1 : i = j
    · subst e1
      rw [if_neg hjk] at hk
      simp only [if_true, if_pos hil, Option.some.injEq] at hj
      rcases hold b hj with ⟨q, _, _⟩ | q
      · exact h.ne i k b c (by rw [hi, q]) hk hjk
      · have := h.get hk; omega
    · rw [if_neg e1] at hj
      by_cases e2 : i = k
      · subst e2
        simp only [if_true, if_pos hil, Option.some.injEq] at hk
        rcases hold c hk with ⟨q, _, _⟩ | q
        · exact h.ne j i b c hj (by rw [hi, q]) hjk
        · have := h.get hj; omega
      · rw [if_neg e2] at hk
        exact h.ne j k b c hj hk hjk

/-- a block that is owned at i is not one of those at other places. -/
theorem Sep.apart {base n : Nat} {os : List (Option Nat)} (h : Sep base n os) {i b : Nat} {o : Option Nat} (hi : os[i]? = some o) (hb : o = some b) {is : List Nat} (hni : i ∉ is) {ks : List Nat} (hk : ∀ k ∈ ks, ∃ j ∈ is, os[j]? = some (some k)) : b ∉ ks := fun hm => by
  obtain ⟨j, hj, hjk⟩ := hk b hm
  subst hb
  exact h.ne i j b b hi hjk (fun e => hni (e ▸ hj)) rfl
end Go.Own
