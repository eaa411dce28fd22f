/- PART OF A PROOF over the given program: Kp1. See the last text of the claim for the statement. -/
import Derived.Test.YtmbgnmnaonjdgaaGreatDoorEngI
import Derived.Below
import Derived.WalkKit
namespace Go.Own
open Go Go.Eng Go.RowKit

/-- A ROW OF ONE-CELL THINGS: the slice v, whose contents are l, at the head of a block of its own; or nil. -/
def Row (w : World) (e : TypeId) (v : Value) (l : List Value) : Prop :=
  (v = .slice none 0 0 ∧ l = []) ∨
  ∃ b cap cur, v = .slice (some ⟨b, 0, none⟩) l.length cap ∧ w.heap[b]? = some (.cells cur e (0, 0)) ∧ l.length ≤ cap ∧ cur.size = cap ∧ ∀ (j : Nat) x, l[j]? = some x → cur[j]? = some x

theorem Row.len {w : World} {e : TypeId} {v : Value} {l : List Value} (h : Row w e v l) : ∃ a c, v = .slice a l.length c := by
  rcases h with ⟨rfl, rfl⟩ | ⟨b, cap, cur, rfl, _⟩ <;> exact ⟨_, _, rfl⟩

theorem Row.lt {w : World} {e : TypeId} {v : Value} {l : List Value} (h : Row w e v l) {b : Nat} (hb : v.ownBlock = some b) : b < w.heap.size := by
  rcases h with ⟨rfl, rfl⟩ | ⟨b', cap, cur, rfl, hh, _⟩
  · simp [Value.ownBlock] at hb
  · simp only [Value.ownBlock, Option.some.injEq] at hb
    subst hb
    rcases Nat.lt_or_ge b' w.heap.size with h' | h'
    · exact h'
    · simp [Array.getElem?_eq_none h'] at hh

theorem Row.cell {w : World} {e : TypeId} {v : Value} {l : List Value} (h : Row w e v l) {b : Nat} (hb : v.ownBlock = some b) {j : Nat} {x : Value} (hx : l[j]? = some x) : w.cell? ⟨b, j, none⟩ = some x := by
  rcases h with ⟨rfl, rfl⟩ | ⟨b', cap, cur, rfl, hh, _, _, hc⟩
  · simp at hx
  · simp only [Value.ownBlock, Option.some.injEq] at hb
    subst hb
    simp [World.cell?, hh, hc j x hx]

theorem Row.kept {w w' : World} {e : TypeId} {v : Value} {l : List Value} (h : Row w e v l) {row : Option Nat} (hg : w.grownBy w' row) (hne : ∀ b, v.ownBlock = some b → some b ≠ row) : Row w' e v l := by
  have hlt := fun b => h.lt (b := b)
  rcases h with h | ⟨b, cap, cur, rfl, hh, h1, h2, h3⟩
  · exact .inl h
  · exact .inr ⟨b, cap, cur, rfl, by rw [hg.block b (hlt b rfl) (hne b rfl)]; exact hh, h1, h2, h3⟩

theorem grownBy_refl (w : World) (row : Option Nat) : w.grownBy w row := ⟨rfl, rfl, rfl, Nat.le_refl _, fun _ _ _ => rfl⟩

section
variable {P : Program}

theorem run_append_nil {tys : Array TypeId} {elem : TypeId} {info : TypeInfo} {z : Value} (hs : ASetup P tys elem info z) (ty : TypeId) {x : Value} {w : World} (hl : (Builtin.lenOf x).run P w = .ok 0 w)
    (hn : (Builtin.firstCells info.size 0 x).run P w = .ok #[] w) :
    (Builtin.append_ tys ty #[.slice none 0 0, x]).run P w = .ok (.slice none 0 0) w := by
  obtain ⟨sT, xT, xd, h0, h1, hu, hux, hni⟩ := hs.ht
  have hx0 : #[Value.slice none 0 0, x][0]? = some (Value.slice none 0 0) := rfl
  have hx1 : #[Value.slice none 0 0, x][1]? = some x := rfl
  simp only [Builtin.append_, h0, h1, hx0, hx1, Sem.run_bind, Go.Eng.run_und hu, Go.Eng.run_und hux, Result.andThen_ok, Go.Eng.run_sizeOf (szOf_info hs.info), Sem.run_pure]
  cases xd <;> first | exact absurd rfl (hni _) | simp [hl, hn]

/-- append of a row of known cells: THE BLOCK IS THE OLD ONE OR A NEW ONE. -/
theorem row_append {tys : Array TypeId} {elem : TypeId} {info : TypeInfo} {z : Value} (hs : ASetup P tys elem info z) (hsz : info.size = 1) (hzc : z.cells.size = 1) (ty : TypeId)
    {w : World} {v : Value} {l new : List Value} {ad : Addr} {c : Nat} (hr : Row w elem v l) (hnew : ∀ (j : Nat) u, new[j]? = some u → w.cell? (ad.add j) = some u) (hone : ∀ u ∈ new, u.oneCell' = true)
    (hb : growBound (l.length + new.length) info.bytes = true) (hb0 : info.bytes ≠ 0) :
    ∃ v' w', (Builtin.append_ tys ty #[v, .slice (some ad) new.length c]).run P w = .ok v' w' ∧ Row w' elem v' (l ++ new) ∧ w.grownBy w' v.ownBlock ∧ (v'.ownBlock = v.ownBlock ∨ v'.ownBlock = some w.heap.size) := by
  have hfirst : ∀ w0 : World, w0.heap = w.heap → (Builtin.firstCells info.size new.length (.slice (some ad) new.length c)).run P w0 = .ok new.toArray w0 := fun w0 hw => by
    have := run_loadCells_list (P := P) w0 ad new (fun j u hj => by
      have := hnew j u hj
      simp only [World.cell?, hw] at this ⊢
      exact this)
    simpa [Builtin.firstCells, hsz] using this
  have hlen : (Builtin.lenOf (.slice (some ad) new.length c)).run P w = .ok new.length w := by simp [Builtin.lenOf]
  have grow : ∀ (base : Option Addr) (sCap : Nat) (hv : v = .slice base l.length sCap) (hcap : sCap < l.length + new.length)
      (ho : (Builtin.firstCells info.size l.length (.slice base l.length sCap)).run P w.drew = .ok l.toArray w.drew), ∃ v' w', (Builtin.append_ tys ty #[v, .slice (some ad) new.length c]).run P w = .ok v' w' ∧ Row w' elem v' (l ++ new) ∧ w.grownBy w' v.ownBlock ∧ (v'.ownBlock = v.ownBlock ∨ v'.ownBlock = some w.heap.size) := by
    intro base sCap hv hcap ho
    subst hv
    obtain ⟨cap, h1, h2⟩ := run_append_gr hs ty hlen (hfirst w.drew rfl) ho hcap hb hb0
    refine ⟨_, _, h2, .inr ⟨w.heap.size, cap, _, by simp, heap_alloc_new w.drew _, by simpa using h1, ?_, fun j x hj => ?_⟩, ⟨rfl, rfl, rfl, by simp, fun k hk _ => ?_⟩, .inr rfl⟩
    · have : (Builtin.zeroCells z.cells (cap - (l.length + new.length))).size = cap - (l.length + new.length) := by simp [Builtin.zeroCells, hzc]
      simp [this]; omega
    · have hlt : j < (l ++ new).length := by
        rcases Nat.lt_or_ge j (l ++ new).length with h' | h'
        · exact h'
        · rw [List.getElem?_eq_none h'] at hj; simp at hj
      simp only [List.getElem?_toArray]
      rw [List.getElem?_append_left hlt]
      exact hj
    · exact Below.heap_alloc w.drew _ k hk
  rcases hr with ⟨rfl, rfl⟩ | ⟨b, cap, cur, rfl, hh, hcap, hcs, hcell⟩
  · by_cases hn : new.length = 0
    · have : new = [] := List.eq_nil_of_length_eq_zero hn
      subst this
      exact ⟨_, _, run_append_nil hs ty (by simp [Builtin.lenOf]) (hfirst w rfl), .inl ⟨rfl, rfl⟩, grownBy_refl _ _, .inl rfl⟩
    · exact grow none 0 rfl (by simp; omega) (by simp [Builtin.firstCells])
  · by_cases hroom : l.length + new.length ≤ cap
    · obtain ⟨cur', hst, hsz', hget⟩ := run_storeCells_blk P b l.length elem (0, 0) new 0 cur w hh (by omega) hone (fun j _ _ => by omega)
      have hrun := run_append_in hs ty (a := ⟨b, 0, none⟩) (sLen := l.length) (sCap := cap) hlen (hfirst w rfl) hroom (by rw [hsz, Nat.mul_one, addr_add, Nat.zero_add]; exact hst)
      have hlt : b < w.heap.size := by
        rcases Nat.lt_or_ge b w.heap.size with h' | h'
        · exact h'
        · simp [Array.getElem?_eq_none h'] at hh
      refine ⟨_, _, hrun, .inr ⟨b, cap, cur', by simp, by simp [hlt], by simpa using hroom, by omega, fun j x hj => ?_⟩, ⟨rfl, rfl, rfl, by simp, fun k hk hne => ?_⟩, .inl rfl⟩
      · rw [hget j]
        by_cases hjl : j < l.length
        · rw [List.getElem?_append_left hjl] at hj
          rw [if_neg (by omega)]
          exact hcell j x hj
        · rw [List.getElem?_append_right (by omega)] at hj
          have : j - l.length < new.length := by
            rcases Nat.lt_or_ge (j - l.length) new.length with h' | h'
            · exact h'
            · rw [List.getElem?_eq_none h'] at hj; simp at hj
          rw [if_pos (by omega)]
          simpa using hj
      · simp only [Array.getElem?_setIfInBounds]
        rw [if_neg (fun e => hne (by rw [← e]; rfl))]
    · refine grow (some ⟨b, 0, none⟩) cap rfl (by omega) ?_
      have := run_loadCells_list (P := P) w.drew ⟨b, 0, none⟩ l (fun j u hj => by
        rw [addr_add, Nat.zero_add]
        have hd : w.drew.heap[b]? = some (.cells cur elem (0, 0)) := hh
        simp [World.cell?, hd, hcell j u hj])
      simpa [Builtin.firstCells, hsz] using this

theorem wp_row_append {o : Oper} {a : Act} {K : Act → World → Prop} {Q : Exit → Act → World → Prop} (s x : Operand) {tys : Array TypeId}
    (ho : o.op = .call { callee := .builtin .append, args := #[s, x], argTypes := tys })
    {elem : TypeId} {info : TypeInfo} {z : Value} (hs : ASetup P tys elem info z) (hsz : info.size = 1) (hzc : z.cells.size = 1)
    {w : World} (v : Value) (l new : List Value) (ad : Addr) (m c : Nat) (hv : a.eval s = v) (hx : a.eval x = .slice (some ad) m c) (hm : m = new.length) (hr : Row w elem v l) (hnew : ∀ (j : Nat) u, new[j]? = some u → w.cell? (ad.add j) = some u) (hone : ∀ u ∈ new, u.oneCell' = true)
    (hb : growBound (l.length + new.length) info.bytes = true) (hb0 : info.bytes ≠ 0)
    (h : ∀ v' w', Row w' elem v' (l ++ new) → w.grownBy w' v.ownBlock → (v'.ownBlock = v.ownBlock ∨ v'.ownBlock = some w.heap.size) → K (a.put o.dst v') w') : o.wp P a w K Q := by
  subst hm
  obtain ⟨v', w', hrun, h2, h3, h4⟩ := row_append hs hsz hzc o.type hr hnew hone hb hb0 (c := c)
  unfold Oper.wp execOp
  simp only [ho, resolve, invoke, builtin, Sem.run_bind, Sem.run_pure, Result.andThen_ok, List.map_toArray, List.map_cons, List.map_nil, hv, hx, hrun]
  exact h v' w' h2 h3 h4

theorem wpList_row_append {ops : Array Oper} {rest : List Oper} {o : Oper} {a : Act} {Q : Exit → Act → World → Prop} (hgd : o.guard = none) (s x : Operand) {tys : Array TypeId}
    (ho : o.op = .call { callee := .builtin .append, args := #[s, x], argTypes := tys })
    {elem : TypeId} {info : TypeInfo} {z : Value} (hs : ASetup P tys elem info z) (hsz : info.size = 1) (hzc : z.cells.size = 1)
    {w : World} (v : Value) (l new : List Value) (ad : Addr) (m c : Nat) (hv : a.eval s = v) (hx : a.eval x = .slice (some ad) m c) (hm : m = new.length) (hr : Row w elem v l) (hnew : ∀ (j : Nat) u, new[j]? = some u → w.cell? (ad.add j) = some u) (hone : ∀ u ∈ new, u.oneCell' = true)
    (hb : growBound (l.length + new.length) info.bytes = true) (hb0 : info.bytes ≠ 0)
    (h : ∀ v' w', Row w' elem v' (l ++ new) → w.grownBy w' v.ownBlock → (v'.ownBlock = v.ownBlock ∨ v'.ownBlock = some w.heap.size) → wpList P ops Q rest (a.put o.dst v') w') : wpList P ops Q (o :: rest) a w :=
  wpList_plain hgd fun _ hK => wp_row_append s x ho hs hsz hzc v l new ad m c hv hx hm hr hnew hone hb hb0 fun v' w' h2 h3 h4 => hK _ _ (h v' w' h2 h3 h4)
end
end Go.Own
