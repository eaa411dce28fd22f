/- PART OF A PROOF over the given program: EngQ. See the last text of the claim for the statement. -/
import Derived.Test.YtmbgnmnaonjdgaaGreatDoorEngP
namespace Go.Eng
open Go

section
variable {P : Program} {G : List Nat} {call : CallF} {ops : Array Oper}
variable {a0 : AAct} {H0 : AH} {aF : AAct} {idF M : Nat} {CF : AH} {cores : List AH} {rs : Recs} {K0 : Kr} {w0 : World} {D : Nat → Prop} {m : Nat} {K : Kr} {w : World} {a' : Act} {h : Nat → Blk}

theorem depB_iff {o : Oper} {j : Nat} : depB o j = true ↔ ∃ e ∈ o.after, Region.binds .any e = true ∧ e.on = j := by
  unfold depB
  rw [List.any_eq_true]
  constructor
  · rintro ⟨e, he, hb⟩
    simp only [Bool.and_eq_true] at hb
    exact ⟨e, by simpa using he, hb.1, Nat.eq_of_beq_eq_true hb.2⟩
  · rintro ⟨e, he, hb, rfl⟩
    exact ⟨e, by simpa using he, by simp [hb]⟩

theorem PInv.init (a0 : AAct) (H0 : AH) : PInv P G call ops a0 H0 0 a0 H0.next 0 H0 [H0] [] where
  len := rfl
  idx := by simp
  look := ⟨rfl, rfl, fun t v hv => .inr ⟨by simp, hv⟩⟩
  looks := by simp
  id0 := Nat.le_refl _
  ids := by simp
  idm := by simp
  ms := by simp
  mm := by simp
  msur := fun q hq => absurd hq (Nat.not_lt_zero q)
  dsts := by simp
  clen := rfl
  c0 := rfl
  cm := rfl
  op := by simp

theorem Inv.init (hC : Ctx P G call ops a0 H0 aF idF M CF cores rs K0 w0) (hR : Rel G K0 H0.get w0) (ha : ActRel P K0 a0 a') (hD : ∀ i, ¬ D i) : Inv P G ops a0 H0 idF M cores rs K0 w0 D 0 K0 w0 a' H0.get where
  closed := fun i _ _ h => absurd h (hD i)
  effs := fun i _ _ _ => ⟨fun h => absurd h (hD i), fun h => absurd h (Nat.not_lt_zero _)⟩
  mle := Nat.zero_le _
  core := ⟨H0, hC.hP.c0, fun _ _ ⟨j, _, _, h, _⟩ => absurd h (hD j), fun _ _ => rfl⟩
  rel := hR
  ext := Ext.refl _ _ _
  dom := fun _ h => .inl h
  fresh := fun i x hx _ b h1 h2 => hC.hf b (by have := hC.hP.ids i x hx; omega) (by have := hC.hP.ids i x hx; omega)
  size := ha.size
  t1 := fun j _ _ _ h => absurd h (hD j)
  t2 := fun t v _ hv => ha.tmp t v hv
  defers := ha.defers

theorem State.final (hC : Ctx P G call ops a0 H0 aF idF M CF cores rs K0 w0) (hS : State P G ops a0 H0 idF M cores rs K0 w0 D w a') (hD : ∀ i, i < ops.size → D i) {Hf : AH}
    (hv : view rs (fun _ => true) (cores.length - 1) rs CF = some Hf) : ∃ K1, Rel G K1 Hf.get w ∧ Ext K0 H0.get w0 K1 Hf.get w ∧ (∀ b, K1.dom b → K0.dom b ∨ (H0.next ≤ b ∧ b < idF)) ∧ ActRel P K1 aF a' := by
  have hDr : ∀ (j : Nat) x, rs[j]? = some x → D j := fun j x hx => hD j (by have := hC.hP.len; have := get_lt hx; omega)
  rcases hS with ⟨m, K, h, hI⟩ | ⟨ix, iy, x, y, K, ws, h, c, B, e, cur, cur', fr, hI⟩
  · have hmM : m = M := by
      have := hI.mle
      rcases Nat.lt_or_ge m M with hlt | hge
      · obtain ⟨k, x, hx, hk, hm⟩ := hC.hP.msur m hlt
        have := (hI.effs k x hx hk).1 (hDr k x hx)
        omega
      · omega
    subst hmM
    have hlen : cores.length - 1 = m := by have := hC.hP.clen; omega
    rw [hlen] at hv
    obtain ⟨C, hc, hview⟩ := hI.core
    rw [hC.hP.cm] at hc; cases hc
    obtain ⟨_, v2, v3⟩ := view_spec rs 0 CF Hf (fun k y hy => by rw [(hC.hP.idx k y hy).1]; omega) hv
    have hh : h = Hf.get := by
      funext b
      by_cases hs : ∃ k, Sel rs D m b k
      · obtain ⟨k, j, y, hy, hDj, hk, hid, ha⟩ := hs
        rw [hview.new b k ⟨j, y, hy, hDj, hk, hid, ha⟩]
        have := (v2 j y k hy rfl hk (by simpa using ha)).2
        rw [hid] at this
        rcases this with h | h
        · exact h.symm
        · exfalso
          rcases hC.hP.op j y hy with ⟨_, _, _, hb, _⟩ | ⟨_, _, _, _, _, hb⟩ | ⟨_, _, _, hb, _⟩
          · rw [hb] at hk; cases hk
          · have := hb k hk
            rw [isDead_iff.1 h] at this
            exact this.elim
          · rw [hb] at hk; cases hk
      · rw [hview.old b fun k hk => hs ⟨k, hk⟩]
        exact (v3 b fun j y k hy _ hk ha e => hs ⟨k, j, y, hy, hDr j y hy, hk, e, by simpa using ha⟩).symm
    subst hh
    obtain ⟨l1, l2, l3⟩ := hC.hP.look
    refine ⟨K, hI.rel, hI.ext, hI.dom, ⟨by rw [hI.size, l1], fun t v hv => ?_, by rw [l2]; exact hI.defers⟩⟩
    rcases l3 t v hv with ⟨j, x, hj, hx, hd, hvv, hlast⟩ | ⟨hno, h0⟩
    · rw [← hvv]
      refine hI.t1 j x t hx (hDr j x hx) hd fun j' x' hx' _ hd' => ?_
      rcases Nat.lt_or_ge j j' with h' | h'
      · exact absurd hd' (hlast j' x' h' (by have := hC.hP.len; have := get_lt hx'; omega) hx')
      · exact h'
    · exact hI.t2 t v (fun j x hx _ hd => hno j x (by have := hC.hP.len; have := get_lt hx; omega) hx hd) h0
  · exact absurd (hDr ix x hI.hx) hI.Dx

def doneB (listed : Array Bool) : Nat → Prop := fun i => listed.getD i false = true

theorem doneB_set {listed : Array Bool} {i : Nat} (hi : i < listed.size) : doneB (listed.setIfInBounds i true) = fun k => doneB listed k ∨ k = i := by
  funext k
  apply propext
  unfold doneB
  by_cases h : i = k
  · subst h; simp [hi]
  · rw [getD_set_ne false h]
    exact ⟨.inl, fun hh => hh.resolve_right fun e => h e.symm⟩

theorem least {p : Nat → Prop} : ∀ (n : Nat), p n → ∃ k, k ≤ n ∧ p k ∧ ∀ j, j < k → ¬ p j := by
  intro n
  induction n using Nat.strongRecOn with
  | _ n ih =>
    intro hp
    by_cases hx : ∃ j, j < n ∧ p j
    · obtain ⟨j, hj, hpj⟩ := hx
      obtain ⟨k, hk, h1, h2⟩ := ih j hj hpj
      exact ⟨k, by omega, h1, h2⟩
    · exact ⟨n, Nat.le_refl _, hp, fun j hj hpj => hx ⟨j, hj, hpj⟩⟩

theorem all_done (hs : regStatic ops = true) {listed : Array Bool} (hsz : listed.size = ops.size) (hr : Region.ready .any ops listed = []) : ∀ i, i < ops.size → doneB listed i := by
  intro i hi
  by_cases hD : doneB listed i
  · exact hD
  · exfalso
    obtain ⟨k, hk, ⟨hk1, hk2⟩, hmin⟩ := least (p := fun j => j < ops.size ∧ ¬ doneB listed j) i ⟨hi, hD⟩
    have ho : ops[k]? = some ops[k] := by simp [hk1]
    have : k ∈ Region.ready .any ops listed := by
      rw [mem_ready]
      refine ⟨?_, ops[k], ho, fun e he hb => ?_⟩
      · have hl : k < listed.size := by omega
        unfold doneB at hk2
        simpa [hl] using hk2
      · have hlt := static_back hs ho (depB_iff.2 ⟨e, he, hb, rfl⟩)
        by_cases hd : doneB listed e.on
        · exact hd
        · exact absurd ⟨by omega, hd⟩ (hmin e.on hlt)
    rw [hr] at this
    simp at this

theorem ready_facts {listed : Array Bool} {i : Nat} (hi : i ∈ Region.ready .any ops listed) : ∃ o, ops[i]? = some o ∧ i < listed.size ∧ ¬ doneB listed i ∧ ∀ j, depB o j = true → doneB listed j := by
  obtain ⟨h1, o, ho, h2⟩ := mem_ready.1 hi
  have hl : i < listed.size := by
    rcases Nat.lt_or_ge i listed.size with h | h
    · exact h
    · simp [Array.getElem?_eq_none h] at h1
  refine ⟨o, ho, hl, ?_, fun j hj => ?_⟩
  · unfold doneB
    simpa [hl] using h1
  · obtain ⟨e, he, hb, rfl⟩ := depB_iff.1 hj
    exact h2 e he hb

theorem draw_go (hC : Ctx P G call ops a0 H0 aF idF M CF cores rs K0 w0) {Hf : AH} (hv : view rs (fun _ => true) (cores.length - 1) rs CF = some Hf) (Q : Exit → Act → World → Prop)
    (hQ : ∀ a1' w1, (∃ K1, Rel G K1 Hf.get w1 ∧ Ext K0 H0.get w0 K1 Hf.get w1 ∧ (∀ b, K1.dom b → K0.dom b ∨ (H0.next ≤ b ∧ b < idF)) ∧ ActRel P K1 aF a1') → Q .normal a1' w1) :
    ∀ (fuel : Nat) (listed : Array Bool) (w : World) (a' : Act), listed.size = ops.size → listed.toList.count false ≤ fuel → State P G ops a0 H0 idF M cores rs K0 w0 (doneB listed) w a' →
      wpAny P .any ops Q fuel listed a' w := by
  intro fuel
  induction fuel with
  | zero =>
    intro listed w a' hsz hcount hS
    have hall : ∀ i, i < ops.size → doneB listed i := fun i hi => by
      unfold doneB
      have hl : i < listed.size := by omega
      cases hb : listed[i] with
      | true => simp [hl, hb]
      | false =>
        have : false ∈ listed.toList := by rw [← hb]; simp
        have := List.count_pos_iff.2 this
        omega
    refine ⟨?_, hQ _ _ (hS.final hC hall hv)⟩
    apply List.eq_nil_iff_forall_not_mem.2
    intro i hi
    obtain ⟨o, ho, hl, hn, _⟩ := ready_facts hi
    exact hn (hall i (by omega))
  | succ fuel ih =>
    intro listed w a' hsz hcount hS
    refine ⟨fun hr => hQ _ _ (hS.final hC (all_done hC.hs hsz hr) hv), fun i hi => ?_⟩
    obtain ⟨o, ho, hl, hn, hdeps⟩ := ready_facts hi
    have hil : i < rs.length := by rw [hC.hP.len]; omega
    have hz : rs[i]? = some rs[i] := by simp [hil]
    have hoz := (hC.hP.idx i _ hz).2
    rw [ho] at hoz
    have hoz := Option.some.inj hoz
    refine state_step hC hS hz hn (fun j hj => hdeps j (by rw [hoz]; exact hj)) Q _ fun w1 a1' hS1 => ?_
    refine ih _ _ _ (by simp [hsz]) ?_ (by rw [doneB_set hl]; exact hS1)
    have hb : listed[i] = false := by
      unfold doneB at hn
      simpa [hl] using hn
    have : (listed.setIfInBounds i true).toList.count false + 1 = listed.toList.count false := by
      rw [Array.toList_setIfInBounds]
      rw [List.count_set (by simpa using hl)]
      have hm : false ∈ listed.toList := by rw [← hb]; simp
      have := List.count_pos_iff.2 hm
      simp only [Array.getElem_toList, hb, beq_self_eq_true, if_true, Bool.true_beq, Bool.false_eq_true, if_false]
      omega
    omega

theorem draw_sound (hcall : CallOK P G call) {a : AAct} {H : AH} {a1 : AAct} {H1 : AH} (h : evalDraw P G call ops a H = some (a1, H1)) :
    H.next ≤ H1.next ∧ ∀ K w a' (Q : Exit → Act → World → Prop), Rel G K H.get w → Fresh K H.next H1.next → ActRel P K a a' →
      (∀ a1' w1, RPost P G K H w H1 a1 a1' w1 → Q .normal a1' w1) → wpAny P .any ops Q ops.size (Array.replicate ops.size false) a' { w with drawn := w.drawn + 1 } := by
  unfold evalDraw at h
  cases hst : regStatic ops with
  | false => rw [hst] at h; simp at h
  | true =>
    rw [hst] at h; simp only [cond_true] at h
    split at h
    · rename_i aF idF CF cores rs hp
      cases hrc : recheck P G ops rs cores with
      | false => rw [hrc] at h; simp at h
      | true =>
        rw [hrc] at h; simp only [cond_true] at h
        split at h
        · rename_i Hf hv
          simp only [Option.some.injEq, Prod.mk.injEq] at h
          obtain ⟨rfl, rfl⟩ := h
          obtain ⟨M, hP⟩ := pass_spec ops.toList 0 a H.next 0 H [H] [] a H aF idF CF cores rs (fun k o ho => by simpa using ho) hcall (PInv.init a H) hp
          have hP : PInv P G call ops a H ops.size aF idF M CF cores rs := by simpa using hP
          refine ⟨hP.id0, fun K w a' Q hR hf ha hQ => ?_⟩
          have hC : Ctx P G call ops a H aF idF M CF cores rs K { w with drawn := w.drawn + 1 } := ⟨hP, hst, hrc, hcall, hf⟩
          have hR0 : Rel G K H.get { w with drawn := w.drawn + 1 } := hR.heap rfl
          refine draw_go hC hv Q (fun a1' w1 ⟨K1, r1, r2, r3, r4⟩ => hQ _ _ ⟨K1, r1, ⟨r2.le, r2.size, r2.os, r2.tape, r2.output, r2.old, r2.img, r2.imgRW⟩, r3, r4⟩) _ _ _ _ (by simp) ?_ (.inl ⟨0, K, H.get, Inv.init hC hR0 ha fun i hi => ?_⟩)
          · exact Nat.le_trans List.count_le_length (by simp)
          · unfold doneB at hi
            rw [Array.getD_eq_getD_getElem?, Array.getElem?_replicate] at hi
            split at hi <;> simp at hi
        · simp at h
    · simp at h
end
end Go.Eng
