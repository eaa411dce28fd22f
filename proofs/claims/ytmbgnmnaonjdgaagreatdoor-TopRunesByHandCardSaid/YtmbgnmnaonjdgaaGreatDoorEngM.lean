/- PART OF A PROOF over the given program: EngM. See the last text of the claim for the statement. -/
import Derived.Test.YtmbgnmnaonjdgaaGreatDoorEngL
namespace Go.Eng
open Go

section
variable {P : Program} {G : List Nat} {call : CallF} {ops : Array Oper}

/-! ### the memory at a set of operations that are done -/
def Sel (rs : Recs) (D : Nat → Prop) (m : Nat) (id : Nat) (k : Blk) : Prop :=
  ∃ (j : Nat) (x : Nat × Oper × Rec), rs[j]? = some x ∧ D j ∧ x.2.2.blk = some k ∧ x.2.2.id = id ∧ absorbed rs j m = false

structure IsView (rs : Recs) (D : Nat → Prop) (m : Nat) (h hv : Nat → Blk) : Prop where
  new : ∀ id k, Sel rs D m id k → hv id = k
  old : ∀ b, (∀ k, ¬ Sel rs D m b k) → hv b = h b

theorem isDead_iff {k : Blk} : isDead k = true ↔ k = .dead := by cases k <;> simp [isDead]

theorem view_spec {all : Recs} {sel : Nat → Bool} {m : Nat} : ∀ (rs : Recs) (n : Nat) (H Hv : AH), (∀ (k : Nat) x, rs[k]? = some x → x.1 = n + k) → view all sel m rs H = some Hv →
    Hv.next = H.next ∧
    (∀ (j : Nat) x k, rs[j]? = some x → sel (n + j) = true → x.2.2.blk = some k → absorbed all (n + j) m = false → H.get x.2.2.id = .dead ∧ (Hv.get x.2.2.id = k ∨ isDead k = true)) ∧
    (∀ b, (∀ (j : Nat) x k, rs[j]? = some x → sel (n + j) = true → x.2.2.blk = some k → absorbed all (n + j) m = false → x.2.2.id ≠ b) → Hv.get b = H.get b)
  | [], n, H, Hv, _, h => by
    simp only [view, Option.some.injEq] at h; subst h
    exact ⟨rfl, fun j x k hx => by simp at hx, fun b _ => rfl⟩
  | (j0, o, r) :: rs, n, H, Hv, hidx, h => by
    have h0 : j0 = n := by have := hidx 0 _ rfl; simpa using this
    subst h0
    have hidx' : ∀ (k : Nat) x, rs[k]? = some x → x.1 = j0 + 1 + k := fun k x hx => by
      have := hidx (k + 1) x (by simpa using hx)
      omega
    simp only [view] at h
    split at h
    · rename_i k hk
      cases hc : (sel j0 && !absorbed all j0 m) with
      | true =>
        rw [hc] at h; simp only [cond_true] at h
        cases hd : isDead (H.get r.id) with
        | false => rw [hd] at h; simp at h
        | true =>
          rw [hd] at h; simp only [cond_true] at h
          split at h
          · rename_i H1 hs
            have hg := AH.get_setB hs
            obtain ⟨i1, i2, i3⟩ := view_spec rs (j0 + 1) H1 Hv hidx' h
            refine ⟨i1.trans (AH.next_setB hs), fun j x k' hx hsel hk' hab => ?_, fun b hb => ?_⟩
            · cases j with
              | zero =>
                simp only [List.getElem?_cons_zero, Option.some.injEq] at hx
                subst hx
                simp only at hk'
                rw [hk] at hk'; cases hk'
                refine ⟨isDead_iff.1 hd, ?_⟩
                by_cases hdk : isDead k = true
                · exact .inr hdk
                · left
                  simp only
                  rw [i3 r.id fun j' x' k'' hx' hs' hk'' hab' e => ?_]
                  · rw [hg, if_pos rfl]
                  · obtain ⟨h1, _⟩ := i2 j' x' k'' hx' hs' hk'' hab'
                    rw [e, hg, if_pos rfl] at h1
                    exact hdk (isDead_iff.2 h1)
              | succ j =>
                obtain ⟨h1, h2⟩ := i2 j x k' (by simpa using hx) (by rw [show j0 + 1 + j = j0 + (j + 1) by omega]; exact hsel) hk' (by rw [show j0 + 1 + j = j0 + (j + 1) by omega]; exact hab)
                refine ⟨?_, h2⟩
                rw [hg] at h1
                by_cases e : x.2.2.id = r.id
                · rw [e]; exact isDead_iff.1 hd
                · rwa [if_neg e] at h1
            · rw [i3 b fun j' x' k'' hx' hs' hk'' hab' => ?_]
              · rw [hg, if_neg]
                intro e
                have hc' := hc
                simp only [Bool.and_eq_true, Bool.not_eq_true'] at hc'
                exact hb 0 _ k rfl hc'.1 hk hc'.2 e.symm
              · exact hb (j' + 1) x' k'' (by simpa using hx') (by rw [show j0 + (j' + 1) = j0 + 1 + j' by omega]; exact hs') hk'' (by rw [show j0 + (j' + 1) = j0 + 1 + j' by omega]; exact hab')
          · simp at h
      | false =>
        rw [hc] at h; simp only [cond_false] at h
        obtain ⟨i1, i2, i3⟩ := view_spec rs (j0 + 1) H Hv hidx' h
        refine ⟨i1, fun j x k' hx hsel hk' hab => ?_, fun b hb => ?_⟩
        · cases j with
          | zero =>
            simp only [Nat.add_zero] at hsel hab
            simp [hsel, hab] at hc
          | succ j => exact i2 j x k' (by simpa using hx) (by rw [show j0 + 1 + j = j0 + (j + 1) by omega]; exact hsel) hk' (by rw [show j0 + 1 + j = j0 + (j + 1) by omega]; exact hab)
        · exact i3 b fun j' x' k'' hx' hs' hk'' hab' => hb (j' + 1) x' k'' (by simpa using hx') (by rw [show j0 + (j' + 1) = j0 + 1 + j' by omega]; exact hs') hk'' (by rw [show j0 + (j' + 1) = j0 + 1 + j' by omega]; exact hab')
    · rename_i hk
      obtain ⟨i1, i2, i3⟩ := view_spec rs (j0 + 1) H Hv hidx' h
      refine ⟨i1, fun j x k' hx hsel hk' hab => ?_, fun b hb => ?_⟩
      · cases j with
        | zero =>
          simp only [List.getElem?_cons_zero, Option.some.injEq] at hx
          subst hx
          simp only at hk'
          rw [hk] at hk'; cases hk'
        | succ j => exact i2 j x k' (by simpa using hx) (by rw [show j0 + 1 + j = j0 + (j + 1) by omega]; exact hsel) hk' (by rw [show j0 + 1 + j = j0 + (j + 1) by omega]; exact hab)
      · exact i3 b fun j' x' k'' hx' hs' hk'' hab' => hb (j' + 1) x' k'' (by simpa using hx') (by rw [show j0 + (j' + 1) = j0 + 1 + j' by omega]; exact hs') hk'' (by rw [show j0 + (j' + 1) = j0 + 1 + j' by omega]; exact hab')

/-- the views' blocks are alive. -/
def BlksAlive (rs : Recs) : Prop := ∀ (j : Nat) x k, rs[j]? = some x → x.2.2.blk = some k → isRW k

def Sub (h h' : Nat → Blk) : Prop := ∀ b, h b = .dead ∨ h' b = h b

theorem Rel.sub {K : Kr} {w : World} {h h' : Nat → Blk} (hR : Rel G K h' w) (hs : Sub h h') : Rel G K h w := by
  have lv : ∀ b, live (h b) → h' b = h b := fun b hb => by
    rcases hs b with e | e
    · rw [e] at hb; exact hb.elim
    · exact e
  refine ⟨fun b => ?_, fun b b' hb hb' e => hR.inj b b' (by rw [lv b hb]; exact hb) (by rw [lv b' hb']; exact hb') e, hR.glob⟩
  rcases hs b with e | e
  · rw [e]; trivial
  · rw [← e]; exact hR.blk b

theorem Rel.dead {K : Kr} {w : World} (hg : ∀ g ∈ G, K.dom g ∧ K.ρ g = g) : Rel G K (fun _ => .dead) w := ⟨fun _ => trivial, fun _ _ h => h.elim, hg⟩

def deadH : AH := ⟨.leaf .dead, 0⟩
theorem deadH_get (b : Nat) : deadH.get b = .dead := by
  unfold deadH AH.get
  cases b <;> rfl
theorem Rel_deadH {K : Kr} {w : World} (hg : ∀ g ∈ G, K.dom g ∧ K.ρ g = g) : Rel G K deadH.get w := by
  have : deadH.get = fun _ => Blk.dead := funext deadH_get
  rw [this]; exact Rel.dead hg

/-! ### comparing values -/
theorem kindNo_inj {a b : IntKind} (h : kindNo a = kindNo b) : a = b := by cases a <;> cases b <;> simp_all [kindNo]
theorem eqbL_eq {α : Type} {f : α → α → Bool} (hf : ∀ x y, f x y = true → x = y) : ∀ (l l' : List α), eqbL f l l' = true → l = l'
  | [], [], _ => rfl
  | [], _ :: _, h => by simp [eqbL] at h
  | _ :: _, [], h => by simp [eqbL] at h
  | x :: xs, y :: ys, h => by
    simp only [eqbL, Bool.and_eq_true] at h
    rw [hf _ _ h.1, eqbL_eq hf xs ys h.2]
theorem eqbA_eq {a b : Option Addr} (h : eqbA a b = true) : a = b := by
  unfold eqbA at h
  split at h
  · rfl
  · simp only [Bool.and_eq_true] at h
    rw [Nat.eq_of_beq_eq_true h.1, Nat.eq_of_beq_eq_true h.2]
  · simp at h
theorem eqbV_eq : ∀ (n : Nat) (v w : Value), eqbV n v w = true → v = w
  | 0, v, w, h => by simp [eqbV] at h
  | n + 1, v, w, h => by
    have ih := eqbV_eq n
    have arr : ∀ (a b : Array Value), eqbL (eqbV n) a.toList b.toList = true → a = b := fun a b h => Array.ext' (eqbL_eq ih _ _ h)
    unfold eqbV at h
    split at h
    · split at h <;> first | rfl | simp at h
    · rename_i k a k' b
      simp only [Bool.and_eq_true] at h
      rw [kindNo_inj (Nat.eq_of_beq_eq_true h.1)]
      have h2 := h.2
      unfold eqbI at h2
      split at h2
      · rw [Nat.eq_of_beq_eq_true h2]
      · rw [Nat.eq_of_beq_eq_true h2]
      · simp at h2
    · rename_i a b
      rw [strEq_iff, beq_iff_eq, Go.ByteArray.toList_eq, Go.ByteArray.toList_eq] at h
      obtain ⟨⟨la⟩⟩ := a; obtain ⟨⟨lb⟩⟩ := b
      simp only at h; rw [h]
    · rw [eqbA_eq h]
    · simp only [Bool.and_eq_true] at h
      rw [eqbA_eq h.1.1, Nat.eq_of_beq_eq_true h.1.2, Nat.eq_of_beq_eq_true h.2]
    · rfl
    · rw [Nat.eq_of_beq_eq_true h]
    · rfl
    · rfl
    · simp only [Bool.and_eq_true] at h
      rw [Nat.eq_of_beq_eq_true h.1, ih _ _ h.2]
    · rw [arr _ _ h]
    · rw [arr _ _ h]
    · rename_i f a b f' a' b'
      simp only [Bool.and_eq_true] at h
      have hf : f = f' := by
        have h1 := h.1.1
        unfold eqbFn at h1
        split at h1
        · rw [Nat.eq_of_beq_eq_true h1]
        · simp at h1
      rw [hf, arr _ _ h.1.2, arr _ _ h.2]
    · simp at h

theorem absorbed_iff {rs : Recs} {j m : Nat} : absorbed rs j m = true ↔ ∃ (k : Nat) (x : _), rs[k]? = some x ∧ x.2.2.kind = 2 ∧ x.2.2.m < m ∧ depB x.2.1 j = true := by
  unfold absorbed
  rw [List.any_eq_true]
  constructor
  · rintro ⟨x, hx, h⟩
    obtain ⟨k, hk, rfl⟩ := List.getElem_of_mem hx
    simp only [Bool.and_eq_true] at h
    exact ⟨k, rs[k], by simp [hk], Nat.eq_of_beq_eq_true h.1.1, Nat.le_of_ble_eq_true h.1.2, h.2⟩
  · rintro ⟨k, x, hx, h1, h2, h3⟩
    refine ⟨x, List.mem_of_getElem? hx, ?_⟩
    simp only [Bool.and_eq_true]
    refine ⟨⟨by rw [h1]; rfl, Nat.ble_eq_true_of_le h2⟩, h3⟩
end
end Go.Eng
