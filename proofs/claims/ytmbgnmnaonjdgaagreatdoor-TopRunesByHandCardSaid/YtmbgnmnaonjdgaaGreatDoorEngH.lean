/- PART OF A PROOF over the given program: EngH. See the last text of the claim for the statement. -/
import Derived.Test.YtmbgnmnaonjdgaaGreatDoorEngG
namespace Go.Eng
open Go

section
variable {P : Program} {G : List Nat} {K : Kr} {w : World} {H H' : AH} {ρ : Operand → Option Value}

theorem setCell_eq {g i : Nat} {c : Array Value} {t : TypeId} {fr : Nat × Nat} (h : w.heap[g]? = some (.cells c t fr)) (v : Value) :
    w.setCell ⟨g, i, none⟩ v = { w with heap := w.heap.setIfInBounds g (.cells (c.setIfInBounds i v) t fr) } := by
  unfold World.setCell
  congr 1
  apply Array.ext
  · simp
  · intro j h1 h2
    simp only [Array.getElem_modify]
    rw [Array.getElem_setIfInBounds (by simpa using h2)]
    by_cases hj : g = j
    · subst hj
      have : w.heap[g]'(by simpa using h1) = .cells c t fr := by
        rw [Array.getElem?_eq_getElem (by simpa using h1)] at h
        exact Option.some.inj h
      simp [this]
    · simp [hj]

theorem run_storeCells_blk (P : Program) (g o : Nat) (t : TypeId) (fr : Nat × Nat) : ∀ (vs : List Value) (i : Nat) (cur : Array Value) (w : World),
    w.heap[g]? = some (.cells cur t fr) → o + i + vs.length ≤ cur.size → (∀ v ∈ vs, v.oneCell' = true) → (∀ j, i ≤ j → j < i + vs.length → ¬ (fr.1 ≤ o + j ∧ o + j < fr.2)) →
    ∃ cur' : Array Value, (storeCells ⟨g, o, none⟩ vs i).run P w = .ok () { w with heap := w.heap.setIfInBounds g (.cells cur' t fr) } ∧ cur'.size = cur.size ∧
      ∀ j, cur'[j]? = if o + i ≤ j ∧ j < o + i + vs.length then vs[j - (o + i)]? else cur[j]? := by
  intro vs
  induction vs with
  | nil =>
    intro i cur w hg _ _ _
    refine ⟨cur, ?_, rfl, fun j => ?_⟩
    · simp only [storeCells, Sem.run_pure]
      congr 1
      have : w.heap.setIfInBounds g (.cells cur t fr) = w.heap := by
        apply Array.ext
        · simp
        · intro j h1 h2
          rw [Array.getElem_setIfInBounds]
          split
          · rename_i e
            subst e
            rw [Array.getElem?_eq_getElem h2] at hg
            exact (Option.some.inj hg).symm
          · rfl
      rw [this]
    · simp only [List.length_nil]; rw [if_neg (by omega)]
  | cons v vs ih =>
    intro i cur w hg hle h1 hfr
    simp only [List.length_cons] at hle hfr
    have hlt : o + i < cur.size := by omega
    have hcell : w.cell? ((⟨g, o, none⟩ : Addr).add i) = some cur[o + i] := by rw [addr_add, cell_at hg]; simp [hlt]
    have hnf : w.frozen? ((⟨g, o, none⟩ : Addr).add i) = false := by rw [addr_add]; exact frozen_at hg _ (hfr i (by omega) (by omega))
    have hstep : (store ((⟨g, o, none⟩ : Addr).add i) v).run P w = .ok () { w with heap := w.heap.setIfInBounds g (.cells (cur.setIfInBounds (o + i) v) t fr) } := by
      rw [run_store P w _ v .plain (h1 v (by simp)), hcell]
      simp only [hnf, Bool.false_eq_true, if_false]
      rw [addr_add, setCell_eq hg]
    have hg' : ({ w with heap := w.heap.setIfInBounds g (.cells (cur.setIfInBounds (o + i) v) t fr) } : World).heap[g]? = some (.cells (cur.setIfInBounds (o + i) v) t fr) := by
      have : g < w.heap.size := by
        rcases Nat.lt_or_ge g w.heap.size with h' | h'
        · exact h'
        · simp [Array.getElem?_eq_none h'] at hg
      simp [this]
    obtain ⟨cur', hrun, hsz, hget⟩ := ih (i + 1) _ _ hg' (by simp; omega) (fun u hu => h1 u (by simp [hu])) (fun j hj1 hj2 => hfr j (by omega) (by omega))
    refine ⟨cur', ?_, by rw [hsz]; simp, fun j => ?_⟩
    · simp only [storeCells, Sem.run_bind, hstep, Result.andThen_ok, hrun]
      simp
    · rw [hget j]
      simp only [List.length_cons]
      by_cases hj : j = o + i
      · subst hj
        rw [if_neg (by omega), if_pos (by omega)]
        simp [hlt]
      · by_cases hc : o + (i + 1) ≤ j ∧ j < o + (i + 1) + vs.length
        · rw [if_pos hc, if_pos (by omega), show j - (o + i) = (j - (o + (i + 1))) + 1 by omega, List.getElem?_cons_succ]
        · rw [if_neg hc, if_neg (by omega), Array.getElem?_setIfInBounds_ne (fun e => hj e.symm)]

theorem atom_rel {v v' : Value} (h : VRel K v v') (ha : atomV v = true) : v'.oneCell' = true := by
  cases h <;> first | rfl | simp [atomV] at ha

theorem putCells_spec : ∀ {c : List Value} {o : Nat} {vs c' : List Value}, putCells c o vs = some c' →
    c'.length = c.length ∧ o + vs.length ≤ c.length ∧ ∀ j, c'[j]? = if o ≤ j ∧ j < o + vs.length then vs[j - o]? else c[j]?
  | [], 0, [], c', h => by simp only [putCells, Option.some.injEq] at h; subst h; exact ⟨rfl, by simp, fun j => by rw [if_neg (by simp only [List.length_nil]; omega)]⟩
  | x :: c, 0, [], c', h => by simp only [putCells, Option.some.injEq] at h; subst h; exact ⟨rfl, by simp, fun j => by rw [if_neg (by simp only [List.length_nil]; omega)]⟩
  | x :: c, 0, v :: vs, c', h => by
    simp only [putCells, Option.map_eq_some_iff] at h
    obtain ⟨r, hr, rfl⟩ := h
    obtain ⟨h1, h2, h3⟩ := putCells_spec hr
    refine ⟨by simp [h1], by simp at h2 ⊢; omega, fun j => ?_⟩
    cases j with
    | zero => simp
    | succ j =>
      simp only [List.getElem?_cons_succ, h3 j, List.length_cons]
      by_cases hj : 0 ≤ j ∧ j < 0 + vs.length
      · rw [if_pos hj, if_pos (by omega)]; simp
      · rw [if_neg hj, if_neg (by omega)]
  | x :: c, o + 1, vs, c', h => by
    simp only [putCells, Option.map_eq_some_iff] at h
    obtain ⟨r, hr, rfl⟩ := h
    obtain ⟨h1, h2, h3⟩ := putCells_spec hr
    refine ⟨by simp [h1], by simp at h2 ⊢; omega, fun j => ?_⟩
    cases j with
    | zero => rw [if_neg (by omega)]; rfl
    | succ j =>
      simp only [List.getElem?_cons_succ, h3 j]
      by_cases hj : o ≤ j ∧ j < o + vs.length
      · rw [if_pos hj, if_pos (by omega), show j + 1 - (o + 1) = j - o by omega]
      · rw [if_neg hj, if_neg (by omega)]
  | [], o + 1, vs, c', h => by simp [putCells] at h
  | [], 0, v :: vs, c', h => by simp [putCells] at h

theorem write_sound {b o : Nat} {vs vs' : List Value} (hw : H.write b o vs = some H') (hR : Rel G K H.get w) (hv : LRel K vs vs') :
    ∃ w1, (storeCells ⟨K.ρ b, o, none⟩ vs').run P w = .ok () w1 ∧ Rel G K H'.get w1 ∧ Ext K H.get w K H'.get w1 ∧ H'.next = H.next ∧ K.dom b ∧
      (∃ c c' e es, H.get b = .cells c e es true ∧ (∀ j, H'.get j = if j = b then .cells c' e es true else H.get j)) := by
  unfold AH.write at hw
  split at hw
  · rename_i c e es hb
    cases hat : vs.all atomV with
    | false => rw [hat] at hw; simp at hw
    | true =>
      rw [hat] at hw; simp only [cond_true] at hw
      split at hw
      · rename_i c' hp
        obtain ⟨p1, p2, p3⟩ := putCells_spec hp
        obtain ⟨hd, hes, _, cur, fr, hh, hsz, hle, hcv, hfr⟩ := hR.read hb
        have hlen := hv.length
        obtain ⟨cur', hrun, hs', hget⟩ := run_storeCells_blk P (K.ρ b) o e fr vs' 0 cur w hh (by omega)
          (fun v' hv' => by
            obtain ⟨i, hi, rfl⟩ := List.getElem_of_mem hv'
            have hi2 : i < vs.length := by omega
            obtain ⟨u', hu', hr⟩ := hv.get i vs[i] (by simp [hi2])
            rw [List.getElem?_eq_getElem hi] at hu'
            cases hu'
            exact atom_rel hr (List.all_eq_true.1 hat _ (by simp)))
          (fun j _ hj => unfrozen (hfr rfl) _ (by omega))
        have hlt : K.ρ b < w.heap.size := by
          rcases Nat.lt_or_ge (K.ρ b) w.heap.size with h' | h'
          · exact h'
          · simp [Array.getElem?_eq_none h'] at hh
        have hne : ∀ j, live (H.get j) → j ≠ b → K.ρ j ≠ K.ρ b := fun j hj hjb e => hjb (hR.inj j b hj (by rw [hb]; trivial) e)
        have hg := AH.get_setB hw
        have hlv : ∀ j, live (H'.get j) → live (H.get j) := fun j hj => by
          rw [hg j] at hj
          by_cases e : j = b
          · subst e; rw [hb]; trivial
          · simpa [e] using hj
        have hlv2 : ∀ j, isRW (H'.get j) → isRW (H.get j) := fun j hj => by
          rw [hg j] at hj
          by_cases e : j = b
          · subst e; rw [hb]; trivial
          · simpa [e] using hj
        refine ⟨_, by simpa using hrun, ⟨fun j => ?_, fun i j hi hj e => hR.inj i j (hlv i hi) (hlv j hj) e, hR.glob⟩, ?_, AH.next_setB hw, hd, c, c', e, es, hb, hg⟩
        · rw [hg j]
          by_cases hj : j = b
          · subst hj
            simp only [if_true]
            refine ⟨hd, hes, (by intro h; cases h), cur', fr, by simp [hlt], by omega, by omega, fun i v hi => ?_, fun _ => by have := hfr rfl; omega⟩
            rw [p3] at hi
            rw [hget i]
            simp only [Nat.add_zero]
            rw [← hlen]
            by_cases hc : o ≤ i ∧ i < o + vs.length
            · rw [if_pos hc] at hi ⊢
              exact hv.get _ _ hi
            · rw [if_neg hc] at hi ⊢
              exact hcv i v hi
          · rw [if_neg hj]
            cases hk : H.get j with
            | dead => trivial
            | cells c2 e2 es2 rw2 =>
              have := hR.blk j
              rw [hk] at this
              refine this.old (Kr.le_refl K) fun r hr _ => ?_
              have : K.ρ j ≠ K.ρ b := hne j (by rw [hk]; trivial) hj
              simp only [Array.getElem?_setIfInBounds]
              rw [if_neg (by omega)]
            | map es2 c2 =>
              have := hR.blk j
              rw [hk] at this
              refine this.old (Kr.le_refl K) fun r hr _ => ?_
              have : K.ρ j ≠ K.ρ b := hne j (by rw [hk]; trivial) hj
              simp only [Array.getElem?_setIfInBounds]
              rw [if_neg (by omega)]
        · refine ⟨Kr.le_refl K, by simp, rfl, rfl, rfl, fun r hr hn => ?_, fun j hj => .inl ⟨j, hlv j hj, rfl⟩, fun j hj => .inl ⟨j, hlv2 j hj, rfl⟩⟩
          simp only [Array.getElem?_setIfInBounds]
          rw [if_neg (hn b (by rw [hb]; trivial))]
      · simp at hw
  · simp at hw
end
end Go.Eng
