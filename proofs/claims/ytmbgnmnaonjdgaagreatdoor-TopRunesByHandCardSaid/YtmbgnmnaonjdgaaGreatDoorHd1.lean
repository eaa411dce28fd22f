/- PART OF A PROOF over the given program: Hd1. See the last text of the claim for the statement. -/
import Derived.Test.YtmbgnmnaonjdgaaGreatDoorKpS
namespace Go.Own
open Go Go.Eng Go.RowKit

/-- what a call may do to a row: it stays, is nil, or stands in a new block. -/
def Went (w : World) (v v' : Value) : Prop := Turned w.heap.size v.ownBlock v'.ownBlock

/-- ROWS THAT A CALL HAS MADE, each in a block of its own; what was there when it began is as it was. -/
structure Held (W w : World) (rs : List (Value × TypeId × List Value)) : Prop where
  bel : Below W.heap.size W w
  rows : ∀ (i : Nat) v e l, rs[i]? = some (v, e, l) → Row w e v l
  sep : Sep W.heap.size w.heap.size (rs.map fun r => r.1.ownBlock)

theorem Held.start {W w : World} (h : Below W.heap.size W w) : Held W w [] :=
  ⟨h, fun i v e l hi => by simp at hi, ⟨fun o ho => by simp at ho, fun i j b c hi => by simp at hi⟩⟩

theorem Held.size {W w : World} {rs : List (Value × TypeId × List Value)} (h : Held W w rs) : W.heap.size ≤ w.heap.size := h.bel.size

theorem Held.own {W w : World} {rs : List (Value × TypeId × List Value)} (h : Held W w rs) {i : Nat} {v : Value} {e : TypeId} {l : List Value} (hi : rs[i]? = some (v, e, l)) : (rs.map fun r => r.1.ownBlock)[i]? = some v.ownBlock := by
  rw [List.getElem?_map, hi]; rfl

/-- nothing that is held turns. -/
theorem Held.same {W w w' : World} {rs : List (Value × TypeId × List Value)} (h : Held W w rs) (hO : Only [] w w') : Held W w' rs :=
  ⟨h.bel.trans (hO.below h.size (by simp)), fun i v e l hi => (h.rows i v e l hi).only hO (by simp), h.sep.grow hO.size⟩

theorem only_of_below {w w' : World} (h : Below w.heap.size w w') : Only [] w w' := ⟨h.os, h.tape, h.output, h.size, fun k hk _ => h.block k hk⟩
theorem Held.below {W w w' : World} {rs : List (Value × TypeId × List Value)} (h : Held W w rs) (hB : Below w.heap.size w w') : Held W w' rs := h.same (only_of_below hB)
theorem Held.alloc {W w : World} {rs : List (Value × TypeId × List Value)} (h : Held W w rs) (o : Obj) : Held W (w.alloc o) rs := h.same ((Only.refl [] w).alloc o)

/-- one row turns. -/
theorem Held.set {W w w' : World} {rs : List (Value × TypeId × List Value)} (h : Held W w rs) {i : Nat} {v v' : Value} {e : TypeId} {l l' : List Value} (hi : rs[i]? = some (v, e, l)) (hO : Only v.ownBlock.toList w w') (hM : Went w v v') (hr : Row w' e v' l') :
    Held W w' (rs.set i (v', e, l')) := by
  have hk : ∀ b ∈ v.ownBlock.toList, ∃ j ∈ [i], (rs.map fun r => r.1.ownBlock)[j]? = some (some b) := fun b hb => ⟨i, by simp, by rw [h.own hi]; simpa using hb⟩
  refine ⟨h.bel.trans (hO.below h.size fun b hb => ?_), fun j u f m hj => ?_, ?_⟩
  · obtain ⟨j, _, hj⟩ := hk b hb
    exact (h.sep.get hj).1
  · rw [List.getElem?_set] at hj
    by_cases hij : i = j
    · subst hij
      have hlt : i < rs.length := by
        rcases Nat.lt_or_ge i rs.length with h' | h'
        · exact h'
        · rw [List.getElem?_eq_none h'] at hi; cases hi
      simp only [if_true, if_pos hlt, Option.some.injEq, Prod.mk.injEq] at hj
      obtain ⟨rfl, rfl, rfl⟩ := hj
      exact hr
    · rw [if_neg hij] at hj
      exact (h.rows j u f m hj).only hO fun b hb => h.sep.apart (h.own hj) hb (by simpa using fun e => hij e.symm) hk
  · rw [List.map_set]
    exact h.sep.set (h.own hi) hM h.size hO.size fun b hb => hr.lt hb

/-- a nil row is as good as any. -/
theorem Held.addNil {W w : World} {rs : List (Value × TypeId × List Value)} (h : Held W w rs) (e : TypeId) : Held W w (rs ++ [(.slice none 0 0, e, [])]) := by
  refine ⟨h.bel, fun i v f l hi => ?_, ⟨fun o ho b hb => ?_, fun i j b c hi hj hij => ?_⟩⟩
  · rw [List.getElem?_append] at hi
    split at hi
    · exact h.rows i v f l hi
    · have : i - rs.length = 0 := by
        rcases Nat.eq_zero_or_pos (i - rs.length) with h' | h'
        · exact h'
        · rw [List.getElem?_eq_none (by simp; omega)] at hi; cases hi
      rw [this] at hi
      simp only [List.getElem?_cons_zero, Option.some.injEq, Prod.mk.injEq] at hi
      obtain ⟨rfl, rfl, rfl⟩ := hi
      exact .inl ⟨rfl, rfl⟩
  · rw [List.map_append, List.mem_append] at ho
    rcases ho with ho | ho
    · exact h.sep.lo o ho b hb
    · simp [Value.ownBlock] at ho
      rw [ho] at hb; cases hb
  · have hh : ∀ (i b : Nat), ((rs ++ [((.slice none 0 0 : Value), e, ([] : List Value))]).map fun r => r.1.ownBlock)[i]? = some (some b) → (rs.map fun r => r.1.ownBlock)[i]? = some (some b) := fun i b hi => by
      rw [List.map_append, List.getElem?_append] at hi
      split at hi
      · exact hi
      · exfalso
        rename_i hlt
        rw [List.length_map] at hlt hi
        have : i - rs.length = 0 := by
          rcases Nat.eq_zero_or_pos (i - rs.length) with h' | h'
          · exact h'
          · rw [List.getElem?_eq_none (by simp; omega)] at hi; cases hi
        rw [this] at hi
        simp [Value.ownBlock] at hi
    exact h.sep.ne i j b c (hh i b hi) (hh j c hj) hij

/-- what row_append leaves. -/
theorem Held.app {W w wd : World} {o : Obj} {rs : List (Value × TypeId × List Value)} (h : Held W w rs) {i : Nat} {v v' : Value} {e : TypeId} {l l' : List Value} (hi : rs[i]? = some (v, e, l)) (hrow : Row wd e v' l') (hgr : (w.alloc o).grownBy wd v.ownBlock) (hblk : v'.ownBlock = v.ownBlock ∨ v'.ownBlock = some (w.alloc o).heap.size) :
    Held W wd (rs.set i (v', e, l')) := by
  refine h.set hi (((Only.refl _ w).alloc _).trans (Only.of_grownBy hgr) (fun k hk _ => hk)) ?_ hrow
  rcases hblk with h' | h'
  · exact .inl h'
  · exact .inr (.inr ⟨_, h', by simp⟩)

theorem Held.row {W w : World} {rs : List (Value × TypeId × List Value)} (h : Held W w rs) {i : Nat} {v : Value} {e : TypeId} {l : List Value} (hi : rs[i]? = some (v, e, l)) : Row w e v l := h.rows i v e l hi

/-- a new row, from a literal. -/
theorem Held.lit {W w : World} {rs : List (Value × TypeId × List Value)} (h : Held W w rs) (cs : Array Value) (e : TypeId) : Held W (w.alloc (.cells cs e)) (rs ++ [(.slice (some ⟨w.heap.size, 0, none⟩) cs.size cs.size, e, cs.toList)]) := by
  have ha := h.alloc (.cells cs e)
  have hlen : (rs.map fun r => r.1.ownBlock).length = rs.length := by simp
  have hrow : Row (w.alloc (.cells cs e)) e (.slice (some ⟨w.heap.size, 0, none⟩) cs.size cs.size) cs.toList :=
    .inr ⟨w.heap.size, cs.size, cs, by simp, heap_alloc_new w _, by simp, rfl, fun j x hj => by simpa using hj⟩
  have hlast : ∀ (i : Nat) (x : Value × TypeId × List Value), (rs ++ [(.slice (some ⟨w.heap.size, 0, none⟩) cs.size cs.size, e, cs.toList)])[i]? = some x → rs[i]? = some x ∨ (i = rs.length ∧ x = (.slice (some ⟨w.heap.size, 0, none⟩) cs.size cs.size, e, cs.toList)) := fun i x hi => by
    rw [List.getElem?_append] at hi
    split at hi
    · exact .inl hi
    · right
      have : i - rs.length = 0 := by
        rcases Nat.eq_zero_or_pos (i - rs.length) with h' | h'
        · exact h'
        · rw [List.getElem?_eq_none (by simp; omega)] at hi; cases hi
      rw [this] at hi
      simp only [List.getElem?_cons_zero, Option.some.injEq] at hi
      exact ⟨by omega, hi.symm⟩
  have hown : ∀ (i b : Nat), ((rs ++ [((.slice (some ⟨w.heap.size, 0, none⟩) cs.size cs.size : Value), e, cs.toList)]).map fun r => r.1.ownBlock)[i]? = some (some b) → ((rs.map fun r => r.1.ownBlock)[i]? = some (some b)) ∨ (i = rs.length ∧ b = w.heap.size) := fun i b hi => by
    rw [List.getElem?_map, Option.map_eq_some_iff] at hi
    obtain ⟨x, hx, hxb⟩ := hi
    rcases hlast i x hx with h' | ⟨h1, h2⟩
    · left
      rw [List.getElem?_map, h']
      simpa using hxb
    · right
      subst h2
      simp [Value.ownBlock] at hxb
      exact ⟨h1, hxb.symm⟩
  refine ⟨ha.bel, fun i v f l hi => ?_, ⟨fun o ho b hb => ?_, fun i j b c hi hj hij => ?_⟩⟩
  · rcases hlast i _ hi with h' | ⟨_, h'⟩
    · exact ha.rows i v f l h'
    · simp only [Prod.mk.injEq] at h'
      obtain ⟨rfl, rfl, rfl⟩ := h'
      exact hrow
  · subst hb
    obtain ⟨i, hi⟩ := List.mem_iff_getElem?.1 ho
    rcases hown i b hi with h' | ⟨_, rfl⟩
    · have := ha.sep.get h'
      simpa using this
    · exact ⟨h.size, by simp⟩
  · rcases hown i b hi with h1 | ⟨h1, h2⟩
    · rcases hown j c hj with h3 | ⟨h3, h4⟩
      · exact h.sep.ne i j b c h1 h3 hij
      · have := h.sep.get h1; omega
    · rcases hown j c hj with h3 | ⟨h3, h4⟩
      · have := h.sep.get h3; omega
      · omega
end Go.Own
