/- PART OF A PROOF over the given program: EngR. See the last text of the claim for the statement. -/
import Derived.Test.YtmbgnmnaonjdgaaGreatDoorEngQ
import Derived.Scope
namespace Go.Eng
open Go

section
variable {P : Program} {G : List Nat}

/-! ### a frame's temporaries -/
theorem T.get_full {α : Type} {a v : α} : ∀ (d k : Nat), (T.full a d).get k = some v → v = a
  | 0, k, h => by
    cases k with
    | zero => simp [T.full, T.get] at h; exact h.symm
    | succ k => simp [T.full, T.get] at h
  | d + 1, k, h => by
    simp only [T.full, T.get] at h
    cases hb : Nat.beq (k % 2) 0 <;> rw [hb] at h <;> exact T.get_full d (k / 2) h

theorem initGo_spec : ∀ (l : List Value) (i : Nat) (t t' : T Value), initAct.go l i t = some t' → ∀ j, t'.get j = if i ≤ j ∧ j < i + l.length then l[j - i]? else t.get j
  | [], i, t, t', h, j => by
    simp only [initAct.go, Option.some.injEq] at h; subst h
    rw [if_neg (by simp)]
  | v :: l, i, t, t', h, j => by
    simp only [initAct.go] at h
    split at h
    · rename_i t1 ht
      rw [initGo_spec l (i + 1) t1 t' h j, T.get_set _ _ _ j _ ht]
      by_cases hj : j = i
      · subst hj
        rw [if_neg (by omega), if_pos rfl, if_pos (by simp)]
        simp
      · by_cases hc : i + 1 ≤ j ∧ j < i + 1 + l.length
        · rw [if_pos hc, if_pos (by simp; omega)]
          have : j - i = (j - (i + 1)) + 1 := by omega
          rw [this, List.getElem?_cons_succ]
        · rw [if_neg hc, if_neg hj, if_neg (by simp; omega)]
    · simp at h

theorem init_rel {fn : Func} {K : Kr} {args : List Value} {args' : Array Value} {a : AAct} (h : initAct fn args = some a) (hr : LRel K args args'.toList) :
    ActRel P K a { tmps := args' ++ Array.replicate (fn.ntmps - args'.size) undef, defers := [] } := by
  unfold initAct at h
  have hlen : args.length = args'.size := by simpa using hr.length
  cases hle : Nat.ble args.length fn.ntmps with
  | false => rw [hle] at h; simp at h
  | true =>
    rw [hle] at h; simp only [cond_true] at h
    have hle := Nat.le_of_ble_eq_true hle
    split at h
    · rename_i t ht
      simp only [Option.some.injEq] at h; subst h
      suffices key : ∀ (j : Nat) (v : Value), AAct.look ⟨t, fn.ntmps, []⟩ j = some v → VRel K v ((args' ++ Array.replicate (fn.ntmps - args'.size) undef).getD j undef) from
        ⟨by simp; omega, key, .nil⟩
      intro j v hv
      have hj : j < fn.ntmps := look_lt hv
      unfold AAct.look at hv
      have hb : Nat.blt j fn.ntmps = true := Nat.ble_eq_true_of_le hj
      simp only [hb, cond_true] at hv
      rw [initGo_spec _ _ _ _ ht] at hv
      by_cases hja : j < args.length
      · rw [if_pos (by omega)] at hv
        obtain ⟨v', hv', hrel⟩ := hr.get j v (by simpa using hv)
        have hj' : j < args'.size := by omega
        have : (args' ++ Array.replicate (fn.ntmps - args'.size) undef).getD j undef = v' := by
          rw [Array.getD_eq_getD_getElem?, Array.getElem?_append_left hj']
          have : args'[j]? = some v' := by simpa using hv'
          rw [this]; rfl
        rw [this]; exact hrel
      · rw [if_neg (by omega)] at hv
        have := T.get_full _ _ hv
        subst this
        have hj' : args'.size ≤ j := by omega
        have : (args' ++ Array.replicate (fn.ntmps - args'.size) undef).getD j undef = undef := by
          rw [Array.getD_eq_getD_getElem?, Array.getElem?_append_right hj', Array.getElem?_replicate]
          split <;> rfl
        rw [this]; exact undef_rel
    · simp at h

/-! ### results -/
def resOne (tmps : Array Value) : ResultVar → Sem Value
  | .tmp t => pure (tmps.getD t undef)
  | .cell x t => do loadVar t (← asAddr (tmps.getD x undef))

theorem resA_run {K : Kr} {w : World} {a : AAct} {a' : Act} {H : AH} (hR : Rel G K H.get w) (ha : ActRel P K a a') : ∀ {l : List ResultVar} {vs : List Value}, resA P a H l = some vs →
    ∃ vs', (l.mapM (resOne a'.tmps)).run P w = .ok vs' w ∧ LRel K vs vs'
  | [], vs, h => by
    simp only [resA, Option.some.injEq] at h; subst h
    exact ⟨[], by simp [List.mapM_nil], .nil⟩
  | .tmp t :: l, vs, h => by
    simp only [resA] at h
    split at h
    · rename_i v r hv hr
      simp only [Option.some.injEq] at h; subst h
      obtain ⟨vs', h1, h2⟩ := resA_run hR ha hr
      exact ⟨_ :: vs', by simp only [List.mapM_cons, Sem.run_bind, resOne, Sem.run_pure, Result.andThen_ok, h1], .cons (ha.tmp t v hv) h2⟩
    · simp at h
  | .cell x t :: l, vs, h => by
    simp only [resA] at h
    split at h
    · rename_i v hv
      split at h
      · rename_i u r hu hr
        simp only [Option.some.injEq] at h; subst h
        obtain ⟨vs', h1, h2⟩ := resA_run hR ha hr
        obtain ⟨u', h3, h4⟩ := load_sound hR (ha.tmp x v hv) hu
        refine ⟨u' :: vs', ?_, .cons h4 h2⟩
        have hx := ha.tmp x v hv
        have hptr : ∃ ad, a'.tmps.getD x undef = .pointer (some ad) := by
          unfold loadA at hu
          split at hu
          · generalize a'.tmps.getD x undef = q at hx
            cases hx with
            | ptr b o hd => exact ⟨_, rfl⟩
          · simp at hu
        obtain ⟨ad, had⟩ := hptr
        rw [had] at h3
        simp only [Instr.loadAt, Instr.sureAddr, Sem.run_bind, Sem.run_pure, Result.andThen_ok] at h3
        have hone : (resOne a'.tmps (.cell x t)).run P w = .ok u' w := by
          simp only [resOne, had, asAddr, Sem.run_bind, Sem.run_pure, Result.andThen_ok, h3]
        simp only [List.mapM_cons, Sem.run_bind, hone, Sem.run_pure, Result.andThen_ok, h1]
      · simp at h
    · simp at h

def packL : List Value → Value
  | [v] => v
  | vs => .tuple ⟨vs⟩

theorem results_run {K : Kr} {w : World} {a : AAct} {a' : Act} {H : AH} {fn : Func} {vs : List Value} (hR : Rel G K H.get w) (ha : ActRel P K a a') (h : resA P a H fn.results.toList = some vs) :
    ∃ v', (results fn a'.tmps).run P w = .ok v' w ∧ VRel K (packL vs) v' := by
  obtain ⟨vs', h1, h2⟩ := resA_run hR ha h
  have hl := h2.length
  have hrun : (results fn a'.tmps).run P w = .ok (if h : vs'.toArray.size = 1 then vs'.toArray[0] else .tuple vs'.toArray) w := by
    have he : results fn a'.tmps = (do let vs ← fn.results.mapM (resOne a'.tmps); pure (if h : vs.size = 1 then vs[0] else .tuple vs)) := by
      have hf : (fun | .tmp t => pure (a'.tmps.getD t undef) | .cell x t => do loadVar t (← asAddr (a'.tmps.getD x undef)) : ResultVar → Sem Value) = resOne a'.tmps := by
        funext r
        cases r <;> rfl
      rw [← hf]
      rfl
    rw [he, Array.mapM_eq_mapM_toList]
    simp only [Sem.run_bind, Sem.run_map]
    rw [h1]
    rfl
  refine ⟨_, hrun, ?_⟩
  cases h2 with
  | nil =>
    have : (if h : ([] : List Value).toArray.size = 1 then ([] : List Value).toArray[0] else Value.tuple ([] : List Value).toArray) = .tuple ⟨[]⟩ := by simp
    rw [this]
    exact .tuple _ _ rfl (fun i v v' h1 _ => by simp at h1)
  | cons hr ht =>
    cases ht with
    | nil => simpa [packL] using hr
    | cons hr2 ht2 =>
      rename_i _ x' _ y' _ ys'
      have : (if h : (x' :: y' :: ys').toArray.size = 1 then (x' :: y' :: ys').toArray[0] else Value.tuple (x' :: y' :: ys').toArray) = .tuple ⟨x' :: y' :: ys'⟩ := by simp
      rw [this]
      obtain ⟨e1, e2⟩ := arr_of_F2 (K := K) (a := ⟨_ :: _ :: _⟩) (a' := ⟨x' :: y' :: ys'⟩) (.cons hr (.cons hr2 ht2))
      exact .tuple _ _ e1 e2

/-! ### what is answered by others -/
structure SameW (w w1 : World) : Prop where
  heap : w1.heap = w.heap
  os : w1.os = w.os
  tape : w1.tape = w.tape
  output : w1.output = w.output

theorem SameW.refl (w : World) : SameW w w := ⟨rfl, rfl, rfl, rfl⟩

structure OrcOK (P : Program) (G : List Nat) (O : Orc) : Prop where
  fn : ∀ f args v, O.fn f args = some v → ∀ (H : AH) K w args', Rel G K H.get w → LRel K args args'.toList → Calls P f args' w fun e w1 => ∃ v', e = .returned v' ∧ Post G K H w H v v' w1
  quiet : ∀ g, O.quiet g = true → ∀ args w, CallsD P g args .returning w fun e u w1 => (∃ v, e = .returned v) ∧ u = .returning ∧ SameW w w1

theorem Ext.same {K : Kr} {h : Nat → Blk} {w : World} {K1 : Kr} {h1 : Nat → Blk} {w1 w2 : World} (hE : Ext K h w K1 h1 w1) (hs : SameW w1 w2) : Ext K h w K1 h1 w2 :=
  ⟨hE.le, by rw [hs.heap]; exact hE.size, hs.os.trans hE.os, hs.tape.trans hE.tape, hs.output.trans hE.output, fun r h1 h2 => by rw [hs.heap]; exact hE.old r h1 h2, hE.img, hE.imgRW⟩

theorem leaves_ok {O : Orc} (hO : OrcOK P G O) {K K1 : Kr} {H H' : AH} {w : World} {fn : Func} {a : AAct} {a' : Act} {vs : List Value} (ha : ActRel P K1 a a') (hres : resA P a H' fn.results.toList = some vs)
    {R : Ending → World → Prop} (hQ : ∀ v' w1, Rel G K1 H'.get w1 → Ext K H.get w K1 H'.get w1 → VRel K1 (packL vs) v' → R (.returned v') w1) :
    ∀ {l : List FuncId} {ds : List Deferred}, F2 (DefRel P) l ds → l.all O.quiet = true → ∀ w1, Rel G K1 H'.get w1 → Ext K H.get w K1 H'.get w1 → Leaves P fn a'.tmps R ds .returning w1 := by
  intro l ds hl
  induction hl with
  | nil =>
    intro _ w1 hR hE
    obtain ⟨v', h1, h2⟩ := results_run hR ha hres
    exact ⟨v', h1, hQ _ _ hR hE h2⟩
  | cons hd hds ih =>
    intro hall w1 hR hE
    simp only [List.all_cons, Bool.and_eq_true] at hall
    obtain ⟨hc, cap, args, rfl⟩ := hd
    refine ⟨by simp, _, cap, _, args ++ cap, rfl, callFunc_run hc _ _, ?_⟩
    refine (hO.quiet _ hall.1 _ w1).mono fun e u w2 ⟨⟨v, he⟩, hu, hs⟩ => ?_
    subst he; subst hu
    exact ih hall.2 w2 (hR.heap hs.heap) (hE.same hs)

/-! ### code -/
def exOf : Ex → Exit
  | .normal => .normal
  | .exit id => .exit id
  | .ret => .ret

def EvOK (P : Program) (G : List Nat) (c : Code) (a : AAct) (H : AH) (e : Ex) (a1 : AAct) (H1 : AH) : Prop :=
  H.next ≤ H1.next ∧ ∀ K w a' (Q : Exit → Act → World → Prop), Rel G K H.get w → Fresh K H.next H1.next → ActRel P K a a' →
    (∀ a1' w1, RPost P G K H w H1 a1 a1' w1 → Q (exOf e) a1' w1) → c.wp P Q a' w

def RoundsOK (P : Program) (G : List Nat) (n : Nat) (c : Code) (a : AAct) (H : AH) (e : Ex) (a1 : AAct) (H1 : AH) : Prop :=
  H.next ≤ H1.next ∧ ∀ K w a' (Q : Exit → Act → World → Prop), Rel G K H.get w → Fresh K H.next H1.next → ActRel P K a a' →
    (∀ a1' w1, RPost P G K H w H1 a1 a1' w1 → Q (exOf e) a1' w1) → Code.rounds P c Q n a' w

theorem body_sound {O : Orc} (hO : OrcOK P G O) {evn : Code → AAct → AH → Option (Ex × AAct × AH)} (hev : ∀ c a H e a1 H1, evn c a H = some (e, a1, H1) → EvOK P G c a H e a1 H1) : CallOK P G (body P O evn) := by
  intro f args H v H' h
  unfold body at h
  split at h
  · rename_i v0 hv0
    simp only [Option.some.injEq, Prod.mk.injEq] at h
    obtain ⟨rfl, rfl⟩ := h
    exact ⟨Nat.le_refl _, fun K w args' hR _ hr => hO.fn f args _ hv0 H K w args' hR hr⟩
  · split at h
    · rename_i fn hfn
      split at h
      · rename_i c a hb ha
        split at h
        · rename_i e a1 H1 hev1
          have hne : ∀ id, e ≠ .exit id := fun id he => by subst he; simp at h
          have h : (bif a1.defers.all O.quiet then match resA P a1 H1 fn.results.toList with | some [v] => some (v, H1) | some vs => some (.tuple ⟨vs⟩, H1) | none => none else none) = some (v, H') := by
            cases e with
            | exit id => exact absurd rfl (hne id)
            | normal => exact h
            | ret => exact h
          cases hq : a1.defers.all O.quiet with
          | false => rw [hq] at h; simp at h
          | true =>
            rw [hq] at h; simp only [cond_true] at h
            cases hres : resA P a1 H1 fn.results.toList with
            | none => rw [hres] at h; simp at h
            | some vs =>
              have hv : v = packL vs ∧ H' = H1 := by
                rw [hres] at h
                cases vs with
                | nil => simp at h; exact ⟨h.1.symm, h.2.symm⟩
                | cons x xs =>
                  cases xs with
                  | nil => simp at h; exact ⟨h.1.symm, h.2.symm⟩
                  | cons y ys => simp at h; exact ⟨h.1.symm, h.2.symm⟩
              obtain ⟨rfl, rfl⟩ := hv
              obtain ⟨hle, hwp⟩ := hev _ _ _ _ _ _ hev1
              refine ⟨hle, fun K w args' hR hf hr => calls_of_wp_defers hfn hb ?_⟩
              refine hwp K w _ _ hR hf (init_rel ha hr) fun a1' w1 ⟨K1, r1, r2, r3, r4⟩ => ?_
              have := leaves_ok hO r4 hres (R := fun e w1 => ∃ v', e = .returned v' ∧ Post G K H w H' (packL vs) v' w1) (fun v' w2 q1 q2 q3 => ⟨v', rfl, K1, q3, q1, q2, r3⟩) r4.defers hq w1 r1 r2
              cases e with
              | exit id => exact absurd rfl (hne id)
              | normal => exact this
              | ret => exact this
        · simp at h
      · simp at h
    · simp at h

theorem EvOK.seq {x : Code} {a : AAct} {H : AH} {a1 : AAct} {H1 : AH} {e : Ex} {a2 : AAct} {H2 : AH} (hx : EvOK P G x a H .normal a1 H1)
    {W : (Exit → Act → World → Prop) → Act → World → Prop}
    (hy : H1.next ≤ H2.next ∧ ∀ K w a' (Q : Exit → Act → World → Prop), Rel G K H1.get w → Fresh K H1.next H2.next → ActRel P K a1 a' →
      (∀ a1' w1, RPost P G K H1 w H2 a2 a1' w1 → Q (exOf e) a1' w1) → W Q a' w) :
    H.next ≤ H2.next ∧ ∀ K w a' (Q : Exit → Act → World → Prop), Rel G K H.get w → Fresh K H.next H2.next → ActRel P K a a' →
      (∀ a1' w1, RPost P G K H w H2 a2 a1' w1 → Q (exOf e) a1' w1) → x.wp P (Exit.then (W Q) Q) a' w := by
  obtain ⟨h1, h2⟩ := hx
  obtain ⟨h3, h4⟩ := hy
  refine ⟨by omega, fun K w a' Q hR hf ha hQ => ?_⟩
  refine h2 K w a' _ hR (fun b b1 b2 => hf b b1 (by omega)) ha fun a1' w1 ⟨K1, r1, r2, r3, r4⟩ => ?_
  refine h4 K1 w1 a1' Q r1 (Fresh.mid hf h1 r3) r4 fun a2' w2 hp => hQ _ _ (RPost.trans r2 r3 h1 h3 hp)

theorem ev_sound {O : Orc} (hO : OrcOK P G O) (hm : P.follows .mixedOrders = true) : ∀ (n : Nat),
    (∀ c a H e a1 H1, ev P G O n c a H = some (e, a1, H1) → EvOK P G c a H e a1 H1) ∧
    (∀ b a H e a1 H1, ev P G O n (.loop b) a H = some (e, a1, H1) → RoundsOK P G n b a H e a1 H1) := by
  intro n
  induction n with
  | zero => exact ⟨fun c a H e a1 H1 h => by simp [ev] at h, fun c a H e a1 H1 h => by simp [ev] at h⟩
  | succ n ih =>
    obtain ⟨ih, ihL⟩ := ih
    have hcall := body_sound hO ih
    have hloop : ∀ b a H e a1 H1, ev P G O (n + 1) (.loop b) a H = some (e, a1, H1) → RoundsOK P G (n + 1) b a H e a1 H1 := by
      intro b a H e a1 H1 h
      simp only [ev] at h
      cases hb : ev P G O n b a H with
      | none => rw [hb] at h; simp at h
      | some r =>
        obtain ⟨e0, a0, H0⟩ := r
        rw [hb] at h
        have hx := ih _ _ _ _ _ _ hb
        cases e0 with
        | normal => exact hx.seq (W := fun Q => Code.rounds P b Q n) (ihL _ _ _ _ _ _ h)
        | exit id =>
          simp only [Option.some.injEq, Prod.mk.injEq] at h
          obtain ⟨rfl, rfl, rfl⟩ := h
          exact ⟨hx.1, fun K w a' Q hR hf ha hQ => hx.2 K w a' _ hR hf ha fun a1' w1 hp => hQ a1' w1 hp⟩
        | ret =>
          simp only [Option.some.injEq, Prod.mk.injEq] at h
          obtain ⟨rfl, rfl, rfl⟩ := h
          exact ⟨hx.1, fun K w a' Q hR hf ha hQ => hx.2 K w a' _ hR hf ha fun a1' w1 hp => hQ a1' w1 hp⟩
    refine ⟨fun c a H e a1 H1 h => ?_, hloop⟩
    cases c with
    | skip =>
      simp only [ev, Option.some.injEq, Prod.mk.injEq] at h
      obtain ⟨rfl, rfl, rfl⟩ := h
      exact ⟨Nat.le_refl _, fun K w a' Q hR _ ha hQ => wp_skip (hQ _ _ ⟨K, hR, Ext.refl _ _ _, fun _ h => .inl h, ha⟩)⟩
    | label l =>
      simp only [ev, Option.some.injEq, Prod.mk.injEq] at h
      obtain ⟨rfl, rfl, rfl⟩ := h
      exact ⟨Nat.le_refl _, fun K w a' Q hR _ ha hQ => wp_label (hQ _ _ ⟨K, hR, Ext.refl _ _ _, fun _ h => .inl h, ha⟩)⟩
    | exit id =>
      simp only [ev, Option.some.injEq, Prod.mk.injEq] at h
      obtain ⟨rfl, rfl, rfl⟩ := h
      exact ⟨Nat.le_refl _, fun K w a' Q hR _ ha hQ => wp_exit (hQ _ _ ⟨K, hR, Ext.refl _ _ _, fun _ h => .inl h, ha⟩)⟩
    | ret =>
      simp only [ev, Option.some.injEq, Prod.mk.injEq] at h
      obtain ⟨rfl, rfl, rfl⟩ := h
      exact ⟨Nat.le_refl _, fun K w a' Q hR _ ha hQ => wp_ret (hQ _ _ ⟨K, hR, Ext.refl _ _ _, fun _ h => .inl h, ha⟩)⟩
    | seq x y =>
      simp only [ev] at h
      cases hb : ev P G O n x a H with
      | none => rw [hb] at h; simp at h
      | some r =>
        obtain ⟨e0, a0, H0⟩ := r
        rw [hb] at h
        have hx := ih _ _ _ _ _ _ hb
        cases e0 with
        | normal =>
          have := hx.seq (W := fun Q => y.wp P Q) (ih _ _ _ _ _ _ h)
          exact ⟨this.1, fun K w a' Q hR hf ha hQ => wp_seq (this.2 K w a' Q hR hf ha hQ)⟩
        | exit id =>
          simp only [Option.some.injEq, Prod.mk.injEq] at h
          obtain ⟨rfl, rfl, rfl⟩ := h
          exact ⟨hx.1, fun K w a' Q hR hf ha hQ => wp_seq (hx.2 K w a' _ hR hf ha fun a1' w1 hp => hQ a1' w1 hp)⟩
        | ret =>
          simp only [Option.some.injEq, Prod.mk.injEq] at h
          obtain ⟨rfl, rfl, rfl⟩ := h
          exact ⟨hx.1, fun K w a' Q hR hf ha hQ => wp_seq (hx.2 K w a' _ hR hf ha fun a1' w1 hp => hQ a1' w1 hp)⟩
    | cond c x y =>
      simp only [ev] at h
      split at h
      · rename_i hc
        have hx := ih _ _ _ _ _ _ h
        refine ⟨hx.1, fun K w a' Q hR hf ha hQ => wp_cond_true ?_ (hx.2 K w a' Q hR hf ha hQ)⟩
        have := ha.rho hR _ _ hc
        generalize a'.eval c = q at this
        cases this; rfl
      · rename_i hc
        have hx := ih _ _ _ _ _ _ h
        refine ⟨hx.1, fun K w a' Q hR hf ha hQ => wp_cond_false ?_ (hx.2 K w a' Q hR hf ha hQ)⟩
        have := ha.rho hR _ _ hc
        generalize a'.eval c = q at this
        cases this; rfl
      · simp at h
    | block id b =>
      simp only [ev] at h
      cases hb : ev P G O n b a H with
      | none => rw [hb] at h; simp at h
      | some r =>
        obtain ⟨e0, a0, H0⟩ := r
        rw [hb] at h
        have hx := ih _ _ _ _ _ _ hb
        cases e0 with
        | normal =>
          simp only [Option.some.injEq, Prod.mk.injEq] at h
          obtain ⟨rfl, rfl, rfl⟩ := h
          exact ⟨hx.1, fun K w a' Q hR hf ha hQ => wp_block (hx.2 K w a' _ hR hf ha fun a1' w1 hp => hQ a1' w1 hp)⟩
        | ret =>
          simp only [Option.some.injEq, Prod.mk.injEq] at h
          obtain ⟨rfl, rfl, rfl⟩ := h
          exact ⟨hx.1, fun K w a' Q hR hf ha hQ => wp_block (hx.2 K w a' _ hR hf ha fun a1' w1 hp => hQ a1' w1 hp)⟩
        | exit j =>
          simp only at h
          cases hj : Nat.beq j id with
          | true =>
            rw [hj] at h
            simp only [cond_true, Option.some.injEq, Prod.mk.injEq] at h
            obtain ⟨rfl, rfl, rfl⟩ := h
            have := Nat.eq_of_beq_eq_true hj
            exact ⟨hx.1, fun K w a' Q hR hf ha hQ => wp_block (hx.2 K w a' _ hR hf ha fun a1' w1 hp => by
              simp only [exOf, Exit.inBlock, this, if_true]; exact hQ a1' w1 hp)⟩
          | false =>
            rw [hj] at h
            simp only [cond_false, Option.some.injEq, Prod.mk.injEq] at h
            obtain ⟨rfl, rfl, rfl⟩ := h
            have : j ≠ id := fun e => by subst e; simp at hj
            exact ⟨hx.1, fun K w a' Q hR hf ha hQ => wp_block (hx.2 K w a' _ hR hf ha fun a1' w1 hp => by
              simp only [exOf, Exit.inBlock, this, if_false]; exact hQ a1' w1 hp)⟩
    | loop b =>
      have hx := hloop _ _ _ _ _ _ h
      exact ⟨hx.1, fun K w a' Q hR hf ha hQ => wp_loop_rounds (n + 1) (hx.2 K w a' Q hR hf ha hQ)⟩
    | scope b =>
      simp only [ev] at h
      have hx := ih _ _ _ _ _ _ h
      refine ⟨hx.1, fun K w a' Q hR hf ha hQ => wp_scope_straight (hx.2 K w a' _ hR hf ha fun a1' w1 hp => ?_)⟩
      have := hQ a1' w1 hp
      cases e <;> exact this
    | region id ops draws =>
      cases draws with
      | false =>
        simp only [ev] at h
        split at h
        · rename_i a2 H2 hs
          simp only [Option.some.injEq, Prod.mk.injEq] at h
          obtain ⟨rfl, rfl, rfl⟩ := h
          have hx := seq_sound hcall (ops := ops) ops.toList 0 a H _ _ (fun k o ho => by simpa using ho) hs
          refine ⟨hx.1, fun K w a' Q hR hf ha hQ => wp_region ?_⟩
          have := hx.2 K w a' Q hR hf ha hQ
          rw [List.range_eq_range']
          simpa using this
        · simp at h
      | true =>
        simp only [ev] at h
        split at h
        · rename_i a2 H2 hs
          simp only [Option.some.injEq, Prod.mk.injEq] at h
          obtain ⟨rfl, rfl, rfl⟩ := h
          have hx := draw_sound hcall hs
          exact ⟨hx.1, fun K w a' Q hR hf ha hQ => wp_region_any hm (hx.2 K w a' Q hR hf ha hQ)⟩
        · simp at h
    | _ => simp [ev] at h
end
end Go.Eng
