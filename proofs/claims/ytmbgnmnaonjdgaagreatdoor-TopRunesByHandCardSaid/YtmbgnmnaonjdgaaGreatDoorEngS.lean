/- PART OF A PROOF over the given program: EngS. See the last text of the claim for the statement. -/
import Derived.Test.YtmbgnmnaonjdgaaGreatDoorEngR
import Derived.Below
namespace Go.Eng
open Go Go.RowKit

section
variable {P : Program} {G : List Nat}

theorem Ext.below {K K1 : Kr} {h h1 : Nat → Blk} {w w1 : World} (hE : Ext K h w K1 h1 w1) (hro : ∀ b, ¬ isRW (h b)) : Below w.heap.size w w1 :=
  ⟨hE.os, hE.tape, hE.output, hE.size, fun k hk => hE.old k hk fun b hb => absurd hb (hro b)⟩

/-- A CLOSED CALL, over a memory of which nothing is written. -/
theorem closed_call {O : Orc} (hO : OrcOK P G O) (hm : P.follows .mixedOrders = true) {n : Nat} {f : FuncId} {args : List Value} {args' : Array Value} {H H' : AH} {v : Value} (h : body P O (ev P G O n) f args H = some (v, H'))
    {K : Kr} {w : World} (hR : Rel G K H.get w) (hf : Fresh K H.next H'.next) (ha : LRel K args args'.toList) (hro : ∀ b, ¬ isRW (H.get b)) :
    Calls P f args' w fun e w1 => ∃ v' K1, e = .returned v' ∧ VRel K1 v v' ∧ Rel G K1 H'.get w1 ∧ Below w.heap.size w w1 := by
  obtain ⟨_, h2⟩ := body_sound hO (ev_sound hO hm n).1 f args H v H' h
  refine (h2 K w args' hR hf ha).mono fun e w1 ⟨v', he, K1, r1, r2, r3, _⟩ => ⟨v', K1, he, r1, r2, r3.below hro⟩

/-! ### a memory of one table, that is only read -/
def oneTab (t : T Blk) (g : Nat) (cells : List Value) (e : TypeId) (es next : Nat) : AH := ⟨(t.set g (.cells cells e es false)).getD t, next⟩

def oneKr (g n es : Nat) : Kr := ⟨fun b => b = g, fun _ => g, fun _ => n, fun _ => es⟩

theorem oneTab_get {d g : Nat} {cells : List Value} {e : TypeId} {es next : Nat} (hs : ((T.full Blk.dead d).set g (.cells cells e es false)).isSome = true) (b : Nat) :
    (oneTab (T.full .dead d) g cells e es next).get b = if b = g then .cells cells e es false else .dead := by
  obtain ⟨t, ht⟩ := Option.isSome_iff_exists.1 hs
  unfold AH.get oneTab
  rw [ht]
  simp only [Option.getD_some]
  rw [T.get_set _ _ _ b _ ht]
  by_cases hb : b = g
  · simp [hb]
  · simp only [if_neg hb]
    cases hg : (T.full Blk.dead d).get b with
    | none => rfl
    | some k => exact T.get_full _ _ hg

theorem oneTab_rel {d g : Nat} {cells : List Value} {e : TypeId} {es next : Nat} (hs : ((T.full Blk.dead d).set g (.cells cells e es false)).isSome = true) (hpl : cells.all (plainN 8) = true)
    {w : World} {fr : Nat × Nat} (hw : w.heap[g]? = some (.cells cells.toArray e fr)) : Rel [g] (oneKr g cells.length es) (oneTab (T.full .dead d) g cells e es next).get w := by
  refine ⟨fun b => ?_, fun b b' h1 h2 _ => ?_, fun g' hg => ?_⟩
  · rw [oneTab_get hs]
    by_cases hb : b = g
    · subst hb
      rw [if_pos rfl]
      refine ⟨rfl, rfl, fun _ => rfl, cells.toArray, fr, hw, by simp [oneKr], by simp, fun i v hv => ⟨v, by simpa using hv, ?_⟩, by simp⟩
      exact .of_plain 8 _ (List.all_eq_true.1 hpl v (List.mem_of_getElem? hv))
    · rw [if_neg hb]; trivial
  · rw [oneTab_get hs] at h1 h2
    split at h1
    · split at h2
      · omega
      · exact h2.elim
    · exact h1.elim
  · simp only [List.mem_singleton] at hg
    subst hg
    exact ⟨rfl, rfl⟩

theorem oneTab_ro {d g : Nat} {cells : List Value} {e : TypeId} {es next : Nat} (hs : ((T.full Blk.dead d).set g (.cells cells e es false)).isSome = true) (b : Nat) : ¬ isRW ((oneTab (T.full .dead d) g cells e es next).get b) := by
  rw [oneTab_get hs]
  split
  · exact fun h => h.elim
  · exact fun h => h.elim
end
end Go.Eng
