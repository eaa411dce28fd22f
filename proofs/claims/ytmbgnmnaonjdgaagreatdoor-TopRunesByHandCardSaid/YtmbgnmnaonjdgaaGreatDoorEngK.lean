/- PART OF A PROOF over the given program: EngK. See the last text of the claim for the statement. -/
import Derived.Test.YtmbgnmnaonjdgaaGreatDoorEngJ
namespace Go.Eng
open Go

section
variable {P : Program} {G : List Nat} {K : Kr} {w : World} {H H' : AH}

def DefRel (P : Program) (g : FuncId) (d : Deferred) : Prop := callable P g = true ∧ ∃ cap args, d = ⟨.fn (.func g) cap, args⟩

structure ActRel (P : Program) (K : Kr) (a : AAct) (a' : Act) : Prop where
  size : a'.tmps.size = a.n
  tmp : ∀ t v, a.look t = some v → VRel K v (a'.tmps.getD t undef)
  defers : F2 (DefRel P) a.defers a'.defers

theorem ActRel.mono {K1 : Kr} (hK : K.le K1) {a : AAct} {a' : Act} (h : ActRel P K a a') : ActRel P K1 a a' := ⟨h.size, fun t v hv => (h.tmp t v hv).mono hK, h.defers⟩

theorem look_lt {a : AAct} {t : Nat} {v : Value} (h : a.look t = some v) : t < a.n := by
  unfold AAct.look at h
  cases hb : Nat.blt t a.n with
  | false => rw [hb] at h; simp at h
  | true => exact Nat.le_of_ble_eq_true hb

theorem AAct.put_spec {a a1 : AAct} {dst : Option Tmp} {v : Value} (h : a.put dst v = some a1) : a1.n = a.n ∧ a1.defers = a.defers ∧ (∀ d, dst = some d → d < a.n) ∧ ∀ t, a1.look t = if dst = some t then some v else a.look t := by
  unfold AAct.put at h
  cases dst with
  | none => simp only [Option.some.injEq] at h; subst h; exact ⟨rfl, rfl, by simp, fun t => by simp⟩
  | some d =>
    simp only at h
    cases hb : Nat.blt d a.n with
    | false => rw [hb] at h; simp at h
    | true =>
      rw [hb] at h; simp only [cond_true] at h
      split at h
      · rename_i t' ht
        simp only [Option.some.injEq] at h; subst h
        have hlt : d < a.n := Nat.le_of_ble_eq_true hb
        refine ⟨rfl, rfl, fun d' e => by cases e; exact hlt, fun t => ?_⟩
        unfold AAct.look
        simp only [T.get_set _ _ _ t _ ht]
        by_cases htd : t = d
        · subst htd; simp [hb]
        · have : ¬ d = t := fun e => htd e.symm
          simp [htd, this]
      · simp at h

theorem ActRel.put {a a1 : AAct} {a' : Act} {dst : Option Tmp} {v v' : Value} (h : ActRel P K a a') (hp : a.put dst v = some a1) (hv : VRel K v v') : ActRel P K a1 (a'.put dst v') := by
  obtain ⟨h1, h2, h3, h4⟩ := AAct.put_spec hp
  refine ⟨?_, fun t u hu => ?_, ?_⟩
  · cases dst <;> simp [Act.put, h.size, h1]
  · rw [h4] at hu
    cases dst with
    | none => simp at hu; exact h.tmp t u hu
    | some d =>
      by_cases htd : d = t
      · subst htd
        simp only [if_true, Option.some.injEq] at hu; subst hu
        have := h3 d rfl
        simp [Act.put, h.size, this, hv]
      · have : ¬ (some d = some t) := fun e => htd (Option.some.inj e)
        rw [if_neg this] at hu
        have := h.tmp t u hu
        simpa [Act.put, Array.getElem?_setIfInBounds_ne htd] using this
  · rw [h2]
    cases dst <;> exact h.defers

theorem ActRel.rho {h : Nat → Blk} {a : AAct} {a' : Act} (ha : ActRel P K a a') (hR : Rel G K h w) : RhoRel K (AAct.eval G a) a'.eval := by
  intro x v hx
  cases x with
  | tmp t => exact ha.tmp t v hx
  | const c =>
    simp only [AAct.eval] at hx
    cases hp : plainV c <;> rw [hp] at hx <;> simp at hx
    subst hx; exact .of_plain 8 _ hp
  | global g =>
    simp only [AAct.eval] at hx
    cases hb : G.any (Nat.beq g) with
    | false => rw [hb] at hx; simp at hx
    | true =>
      rw [hb] at hx; simp only [cond_true, Option.some.injEq] at hx; subst hx
      obtain ⟨g', hg', he⟩ := List.any_eq_true.1 hb
      have := Nat.eq_of_beq_eq_true he
      subst this
      obtain ⟨d, r⟩ := hR.glob g hg'
      have := VRel.ptr (K := K) g 0 d
      rw [r] at this
      exact this
  | func f =>
    simp only [AAct.eval, Option.some.injEq] at hx; subst hx
    exact .func _ _ _ _ _ rfl (fun i v v' h1 _ => by simp at h1) rfl (fun i v v' h1 _ => by simp at h1)

theorem wanted_sound {ops : Array Oper} {a : AAct} {a' : Act} {o : Oper} {b : Bool} (ha : ActRel P K a a') (h : wantedA ops a o = some b) : Region.wanted o (yielded ops a'.tmps) = b := by
  unfold wantedA at h
  unfold Region.wanted
  split at h
  · rename_i hg
    simp only [Option.some.injEq] at h; subst h
    simp [hg]
  · rename_i j want hg
    simp only [hg]
    split at h
    · rename_i d hd
      have ht : ∀ v, a.look d = some v → ∃ v', a'.tmps[d]? = some v' ∧ VRel K v v' := fun v hv => by
        have h1 := ha.tmp d v hv
        have h2 := look_lt hv
        rw [← ha.size] at h2
        exact ⟨a'.tmps[d], by simp [h2], by simpa [h2] using h1⟩
      split at h
      · rename_i x hx
        simp only [Option.some.injEq] at h; subst h
        obtain ⟨v', hv', hr⟩ := ht _ hx
        cases hr
        simp [yielded, hd, hv']
      · rename_i v hnb hx
        simp only [Option.some.injEq] at h; subst h
        obtain ⟨v', hv', hr⟩ := ht _ hx
        have : yielded ops a'.tmps j = none := by
          unfold yielded
          rw [hd]
          simp only [Option.bind_some, hv']
          cases hr <;> first | rfl | exact absurd rfl (hnb _)
        simp [this]
      · simp at h
    · rename_i hd
      simp only [Option.some.injEq] at h; subst h
      simp [yielded, hd]

def RPost (P : Program) (G : List Nat) (K : Kr) (H : AH) (w : World) (H' : AH) (a : AAct) (a' : Act) (w1 : World) : Prop :=
  ∃ K1, Rel G K1 H'.get w1 ∧ Ext K H.get w K1 H'.get w1 ∧ (∀ b, K1.dom b → K.dom b ∨ (H.next ≤ b ∧ b < H'.next)) ∧ ActRel P K1 a a'

theorem RPost.trans {H1 : AH} {K1 : Kr} {w1 : World} {a : AAct} {a' : Act} {w2 : World} (hE : Ext K H.get w K1 H1.get w1) (hd : ∀ b, K1.dom b → K.dom b ∨ (H.next ≤ b ∧ b < H1.next)) (h1 : H.next ≤ H1.next) (h2 : H1.next ≤ H'.next)
    (h : RPost P G K1 H1 w1 H' a a' w2) : RPost P G K H w H' a a' w2 := by
  obtain ⟨K2, a1, a2, a3, a4⟩ := h
  refine ⟨K2, a1, hE.trans a2, fun b hb => ?_, a4⟩
  rcases a3 b hb with h | h
  · rcases hd b h with h | h
    · exact .inl h
    · exact .inr ⟨h.1, by omega⟩
  · exact .inr ⟨by omega, h.2⟩

theorem Fresh.mid {K1 : Kr} {lo m hi : Nat} (hf : Fresh K lo hi) (hlm : lo ≤ m) (hd : ∀ b, K1.dom b → K.dom b ∨ (lo ≤ b ∧ b < m)) : Fresh K1 m hi := fun b h1 h2 h3 => by
  rcases hd b h3 with h | h
  · exact hf b (by omega) h2 h
  · omega

theorem seq_sound {call : CallF} (hcall : CallOK P G call) {ops : Array Oper} : ∀ (rest : List Oper) (i : Nat) (a : AAct) (H : AH) (a1 : AAct) (H1 : AH),
    (∀ k o, rest[k]? = some o → ops[i + k]? = some o) → evalSeq P G call ops rest a H = some (a1, H1) →
    H.next ≤ H1.next ∧ ∀ K w a' (Q : Exit → Act → World → Prop), Rel G K H.get w → Fresh K H.next H1.next → ActRel P K a a' →
      (∀ a1' w1, RPost P G K H w H1 a1 a1' w1 → Q .normal a1' w1) → wpOps P ops Q (List.range' i rest.length) a' w := by
  intro rest
  induction rest with
  | nil =>
    intro i a H a1 H1 _ h
    simp only [evalSeq, Option.some.injEq, Prod.mk.injEq] at h
    obtain ⟨rfl, rfl⟩ := h
    refine ⟨Nat.le_refl _, fun K w a' Q hR _ ha hQ => ?_⟩
    simp only [List.length_nil, List.range'_zero, wpOps]
    exact hQ a' w ⟨K, hR, Ext.refl _ _ _, fun b hb => .inl hb, ha⟩
  | cons o rest ih =>
    intro i a H a1 H1 hops h
    have ho : ops[i]? = some o := hops 0 o rfl
    have hops' : ∀ k o', rest[k]? = some o' → ops[i + 1 + k]? = some o' := fun k o' hk => by
      have := hops (k + 1) o' (by simpa using hk)
      rwa [show i + (k + 1) = i + 1 + k by omega] at this
    simp only [evalSeq] at h
    split at h
    · simp at h
    · -- passed by
      rename_i hw
      split at h
      · rename_i a2 hp
        obtain ⟨i1, i2⟩ := ih (i + 1) a2 H a1 H1 hops' h
        refine ⟨i1, fun K w a' Q hR hf ha hQ => ?_⟩
        simp only [List.length_cons, List.range'_succ, wpOps, ho, wanted_sound ha hw, Bool.false_eq_true, if_false]
        exact i2 K w _ Q hR hf (ha.put hp undef_rel) hQ
      · simp at h
    · rename_i hw
      split at h
      · -- a deferral
        rename_i f args _ hop
        split at h
        · rename_i g first cap hfv
          cases hg : (args.isEmpty && callable P g) with
          | false => rw [hg] at h; simp at h
          | true =>
            rw [hg] at h; simp only [cond_true] at h
            simp only [Bool.and_eq_true] at hg
            split at h
            · rename_i a2 hp
              obtain ⟨i1, i2⟩ := ih (i + 1) a2 H a1 H1 hops' h
              refine ⟨i1, fun K w a' Q hR hf ha hQ => ?_⟩
              simp only [List.length_cons, List.range'_succ, wpOps, ho, wanted_sound ha hw, if_true]
              left
              have hf' := ha.rho hR _ _ hfv
              generalize hq : a'.eval f = q at hf'; cases hf' with
              | func _ _ first' _ cap' e1 e2 e3 e4 =>
              have hrun : (execOp a'.eval o).run P w = .ok (.defer ⟨.fn (.func g) cap', first' ++ args.map a'.eval⟩) w := by
                simp only [execOp, hop, resolve, hq, Deferred.ofValue, Sem.run_bind, Sem.run_pure, Result.andThen_ok]
              unfold Oper.wp
              rw [hrun, Oper.upon_defer]
              have ha2 : ActRel P K { a with defers := g :: a.defers } { a' with defers := ⟨.fn (.func g) cap', first' ++ args.map a'.eval⟩ :: a'.defers } :=
                ⟨ha.size, ha.tmp, .cons ⟨hg.2, _, _, rfl⟩ ha.defers⟩
              exact i2 K w _ Q hR hf (ha2.put hp undef_rel) hQ
            · simp at h
        · simp at h
      · cases he : isEff o with
        | true =>
          rw [he] at h; simp only [cond_true] at h
          split at h
          · rename_i v H2 hev
            rw [forceV_eq] at h
            split at h
            · rename_i a2 hp
              obtain ⟨e1, e2⟩ := eff_sound hcall he hev
              obtain ⟨i1, i2⟩ := ih (i + 1) a2 H2 a1 H1 hops' h
              refine ⟨by omega, fun K w a' Q hR hf ha hQ => ?_⟩
              simp only [List.length_cons, List.range'_succ, wpOps, ho, wanted_sound ha hw, if_true]
              left
              refine e2 K w a' _ Q hR (fun b h1 h2 => hf b h1 (by omega)) (ha.rho hR) fun v' w1 ⟨K1, hv, hR1, hE1, hd1⟩ => ?_
              refine i2 K1 w1 _ Q hR1 (hf.mid e1 hd1) ((ha.mono hE1.le).put hp hv) fun a1' w2 hpost => hQ a1' w2 (hpost.trans hE1 hd1 e1 i1)
            · simp at h
          · simp at h
        | false =>
          rw [he] at h; simp only [cond_false] at h
          split at h
          · rename_i v hev
            rw [forceV_eq] at h
            split at h
            · rename_i a2 hp
              obtain ⟨i1, i2⟩ := ih (i + 1) a2 H a1 H1 hops' h
              refine ⟨i1, fun K w a' Q hR hf ha hQ => ?_⟩
              simp only [List.length_cons, List.range'_succ, wpOps, ho, wanted_sound ha hw, if_true]
              left
              obtain ⟨v', hrun, hv⟩ := float_sound (ha.rho hR) hR hev
              exact wp_of_run hrun (i2 K w _ Q hR hf (ha.put hp hv) hQ)
            · simp at h
          · rename_i v k hev
            split at h
            · rename_i H2 hpu
              rw [forceV_eq] at h
              split at h
              · rename_i a2 hp
                have hnx := AH.next_push hpu
                obtain ⟨i1, i2⟩ := ih (i + 1) a2 H2 a1 H1 hops' h
                refine ⟨by omega, fun K w a' Q hR hf ha hQ => ?_⟩
                simp only [List.length_cons, List.range'_succ, wpOps, ho, wanted_sound ha hw, if_true]
                left
                have hfr : ¬ K.dom H.next := hf _ (Nat.le_refl _) (by omega)
                obtain ⟨v', K1, w1, hrun, hv, hnb⟩ := float_sound (ha.rho hR) hR hev hfr
                obtain ⟨K2, p1, p2, p3, p4⟩ := Post.of_float (H' := H2) hR hnb hfr hv (AH.get_push hpu) (Nat.le_refl _) (by omega)
                exact wp_of_run hrun (i2 K2 w1 _ Q p2 (hf.mid (by omega) p4) ((ha.mono p3.le).put hp p1) fun a1' w2 hpost => hQ a1' w2 (hpost.trans p3 p4 (by omega) i1))
              · simp at h
            · simp at h
          · simp at h
end
end Go.Eng
