/- PART OF A PROOF over the given program: EngO. See the last text of the claim for the statement. -/
import Derived.Test.YtmbgnmnaonjdgaaGreatDoorEngN
namespace Go.Eng
open Go

section
variable {P : Program} {G : List Nat} {call : CallF} {ops : Array Oper}
variable {a0 : AAct} {H0 : AH} {aF : AAct} {idF M : Nat} {CF : AH} {cores : List AH} {rs : Recs} {K0 : Kr} {w0 : World} {D : Nat → Prop} {m : Nat} {K : Kr} {w : World} {a' : Act} {h : Nat → Blk}

/-- the view of an operation lies in what is there. -/
theorem view_sub (hC : Ctx P G call ops a0 H0 aF idF M CF cores rs K0 w0) (hI : Inv P G ops a0 H0 idF M cores rs K0 w0 D m K w a' h) {x : Nat × Oper × Rec}
    (hdeps : ∀ j, depB x.2.1 j = true → D j) {all : Recs} {C Hv : AH} (hc : cores[m]? = some C) (hall : (∀ (k : Nat) y, all[k]? = some y → rs[k]? = some y))
    (hab : ∀ j, (∃ y, all[j]? = some y) → absorbed all j m = false → absorbed rs j m = false) (hv : view all (depB x.2.1) m all C = some Hv) :
    Sub Hv.get h ∧ (∀ b, (∀ k, ¬ Sel rs D m b k) → Hv.get b = C.get b) := by
  obtain ⟨C', hc', hview⟩ := hI.core
  rw [hc] at hc'; cases hc'
  have hidx : ∀ (k : Nat) y, all[k]? = some y → y.1 = 0 + k := fun k y hy => by rw [(hC.hP.idx k y (hall k y hy)).1]; omega
  obtain ⟨_, v2, v3⟩ := view_spec all 0 C Hv hidx hv
  have hsel : ∀ (j : Nat) y k, all[j]? = some y → depB x.2.1 j = true → y.2.2.blk = some k → absorbed all j m = false → Sel rs D m y.2.2.id k := fun j y k hy hd hk ha =>
    ⟨j, y, hall j y hy, hdeps j hd, hk, rfl, hab j ⟨y, hy⟩ ha⟩
  refine ⟨fun b => ?_, fun b hno => v3 b fun j y k hy hd hk ha e => hno k (e ▸ hsel j y k hy (by simpa using hd) hk (by simpa using ha))⟩
  by_cases hex : ∃ (j : Nat) (y : Nat × Oper × Rec) (k : Blk), all[j]? = some y ∧ depB x.2.1 j = true ∧ y.2.2.blk = some k ∧ absorbed all j m = false ∧ y.2.2.id = b
  · obtain ⟨j, y, k, hy, hd, hk, ha, rfl⟩ := hex
    obtain ⟨_, h2⟩ := v2 j y k hy (by simpa using hd) hk (by simpa using ha)
    rcases h2 with h2 | h2
    · right
      rw [h2]
      exact hview.new _ _ (hsel j y k hy hd hk ha)
    · left
      have hop := hC.hP.op j y (hall j y hy)
      rcases hop with ⟨_, _, _, hb, _⟩ | ⟨_, _, _, _, _, hb⟩ | ⟨_, _, _, hb, _⟩
      · rw [hb] at hk; cases hk
      · have := hb k hk
        rw [isDead_iff.1 h2] at this
        exact this.elim
      · rw [hb] at hk; cases hk
  · have hvb : Hv.get b = C.get b := v3 b fun j y k hy hd hk ha e => hex ⟨j, y, k, hy, by simpa using hd, hk, by simpa using ha, e⟩
    by_cases hs : ∃ k, Sel rs D m b k
    · left
      obtain ⟨k, j, y, hy, hD, hk, hid, ha⟩ := hs
      have := (recheck_at hC.hrc hy).2.2 k hk m C hc
      rw [(hC.hP.idx j y hy).1, ha, hid] at this
      rw [hvb]
      exact this.resolve_left (by simp)
    · right
      rw [hvb]
      exact hview.old b fun k hk => hs ⟨k, hk⟩

/-- every operation that does not leave the chain. -/
theorem Inv.step (hC : Ctx P G call ops a0 H0 aF idF M CF cores rs K0 w0) (hI : Inv P G ops a0 H0 idF M cores rs K0 w0 D m K w a' h) {i : Nat} {x : Nat × Oper × Rec} (hx : rs[i]? = some x) (hnD : ¬ D i)
    (hdeps : ∀ j, depB x.2.1 j = true → D j) (hmi : x.2.2.kind = 2 → x.2.2.m = m) (Q : Exit → Act → World → Prop) (next : Act → World → Prop)
    (hn : ∀ m1 K1 w1 a1' h1, Inv P G ops a0 H0 idF M cores rs K0 w0 (fun k => D k ∨ k = i) m1 K1 w1 a1' h1 → next a1' w1) : wpOp P ops Q i next a' w := by
  have hox := (hC.hP.idx i x hx).2
  unfold wpOp
  rw [hox]
  simp only
  rcases hC.hP.op i x hx with ⟨hk, hw, hv, hb, _⟩ | ⟨hk, hw, he, ⟨Hv, hev⟩, hid2, hrw⟩ | ⟨hk, hw, he, hb, C, Hv, H', hc, hview, hev, hc', hid2⟩
  · rw [hI.wanted hC hx hnD hdeps hw]
    simp only [Bool.false_eq_true, if_false]
    exact hn _ _ _ _ _ (hI.addPure hC hx hnD hdeps (by rw [hk]; simp) hb (v' := undef) (by rw [hv]; exact undef_rel))
  · rw [hI.wanted hC hx hnD hdeps hw]
    simp only [if_true]
    left
    have hρ := hI.rho hC hx hnD hdeps
    -- at which memory
    have hmem : ∃ Hm : AH, Rel G K Hm.get w ∧ evalFloat P x.2.1 (restr ops x.2.1 (AAct.eval G x.2.2.a)) Hm x.2.2.id = some (x.2.2.v, x.2.2.blk) := by
      cases hrm : readsMem x.2.1 with
      | false => exact ⟨deadH, Rel_deadH hI.rel.glob, (float_noMem hrm deadH Hv).trans hev⟩
      | true =>
        obtain ⟨C, hc, hvw⟩ := hI.core
        rcases (recheck_at hC.hrc hx).1 hk hrm m C hc with ⟨y, hy, hyk, hyy⟩ | ⟨Hv2, hv2, hev2⟩
        · exfalso
          obtain ⟨j, hj, rfl⟩ := List.getElem_of_mem hy
          have hgy : rs[j]? = some rs[j] := by simp [hj]
          have hj1 := (hC.hP.idx j _ hgy).1
          have hoy := (hC.hP.idx j _ hgy).2
          rcases hyy with ⟨d, hle⟩ | ⟨d, hlt⟩
          · rw [hj1] at d
            have := (hI.effs j _ hgy hyk).1 (hdeps j d)
            omega
          · rw [(hC.hP.idx i x hx).1] at d
            have hDj := (hI.effs j _ hgy hyk).2 hlt
            exact hnD (hI.closed j _ i hDj hoy d)
        · obtain ⟨hsub, _⟩ := view_sub hC hI hdeps hc (fun _ _ h => h) (fun _ _ h => h) hv2
          have hbn : x.2.2.blk = none := by
            cases hbk : x.2.2.blk with
            | none => rfl
            | some k =>
              have : ∀ (o : Oper), readsMem o = true → ∀ ρ (H : AH) id v k, evalFloat P o ρ H id ≠ some (v, some k) := by
                intro o ho ρ H id v k hh
                obtain ⟨dst, op, type, pos, after, guard⟩ := o
                cases op <;> simp only [readsMem, reduceCtorEq] at ho
                case load t a =>
                  simp only [evalFloat] at hh
                  repeat' (split at hh)
                  all_goals simp at hh
                case slice t a b c d =>
                  simp only [evalFloat, cond_eq_ite] at hh
                  repeat' (split at hh)
                  all_goals simp at hh
                case call c =>
                  obtain ⟨callee, args, tys⟩ := c
                  cases callee with
                  | value f => simp at ho
                  | invoke r m => simp at ho
                  | builtin b =>
                    cases b <;> simp only [reduceCtorEq] at ho
                    simp only [evalFloat] at hh
                    repeat' (split at hh)
                    all_goals simp at hh
              rw [hbk] at hev
              exact absurd hev (this _ hrm _ _ _ _ _)
          exact ⟨Hv2, hI.rel.sub hsub, by rw [hbn]; exact hev2⟩
    obtain ⟨Hm, hRm, hevm⟩ := hmem
    have hfl := float_sound hρ hRm hevm
    cases hbk : x.2.2.blk with
    | none =>
      rw [hbk] at hfl
      obtain ⟨v', hrun, hv⟩ := hfl
      exact wp_of_run hrun (hn _ _ _ _ _ (hI.addPure hC hx hnD hdeps (by rw [hk]; simp) hbk hv))
    | some k =>
      rw [hbk] at hfl
      have hid2' : x.2.2.id2 = x.2.2.id + 1 := by rw [hid2, hbk]; rfl
      have hfr : ¬ K.dom x.2.2.id := hI.fresh i x hx hnD _ (Nat.le_refl _) (by omega)
      obtain ⟨v', K1, w1, hrun, hv, hnb⟩ := hfl hfr
      obtain ⟨r1, r2⟩ := hnb.rel hI.rel hfr
      refine wp_of_run hrun (hn _ _ _ _ _ (hI.add hC hx hnD hdeps r1 r2 (fun b hb => ?_) ?_ (.inr ⟨by rw [hk]; simp, rfl⟩) hI.mle hv))
      · rcases (hnb.dom b).1 hb with h | h
        · exact .inl h
        · exact .inr ⟨by omega, by omega⟩
      · obtain ⟨C, hc, hvw⟩ := hI.core
        refine ⟨C, hc, fun id k' hs => ?_, fun b hno => ?_⟩
        · obtain ⟨j, y, hy, hD, hk', hid, hab⟩ := hs
          by_cases hji : j = i
          · subst hji
            rw [hx] at hy; cases hy
            rw [hbk] at hk'; cases hk'
            simp [hid]
          · have hDj := hD.resolve_right hji
            have hne : id ≠ x.2.2.id := by
              have hyi := hC.hP.ids j y hy
              have hy2 : y.2.2.id2 = y.2.2.id + 1 := by
                rcases hC.hP.op j y hy with ⟨_, _, _, hb, _⟩ | ⟨_, _, _, _, h2, _⟩ | ⟨_, _, _, hb, _⟩
                · rw [hb] at hk'; cases hk'
                · rw [h2, hk']; rfl
                · rw [hb] at hk'; cases hk'
              rcases Nat.lt_or_ge j i with hlt | hge
              · have := hC.hP.idm j i y x hlt hy hx; omega
              · have := hC.hP.idm i j x y (by omega) hx hy; omega
            simp only [hne, if_false]
            exact hvw.new id k' ⟨j, y, hy, hDj, hk', hid, hab⟩
        · have hab : absorbed rs i m = false := by
            cases hq : absorbed rs i m with
            | false => rfl
            | true =>
              obtain ⟨q, y, hy, h1, h2, h3⟩ := absorbed_iff.1 hq
              exact absurd (hI.closed q _ i ((hI.effs q y hy h1).2 h2) (hC.hP.idx q y hy).2 h3) hnD
          have hne : b ≠ x.2.2.id := fun e => hno k ⟨i, x, hx, .inr rfl, hbk, e.symm, hab⟩
          simp only [hne, if_false]
          exact hvw.old b fun k' hs => hno k' (by
            obtain ⟨j, y, hy, hD, hk', hid, hab⟩ := hs
            exact ⟨j, y, hy, .inl hD, hk', hid, hab⟩)
  · rw [hI.wanted hC hx hnD hdeps hw]
    simp only [if_true]
    left
    have hρ := hI.rho hC hx hnD hdeps
    have hm := hmi hk
    rw [hm] at hc hview hc'
    have htk : ∀ (k : Nat) y, (rs.take i)[k]? = some y → rs[k]? = some y := fun k y hy => by
      rw [List.getElem?_take] at hy
      split at hy
      · exact hy
      · simp at hy
    obtain ⟨hsub, hvold⟩ := view_sub hC hI hdeps hc htk (fun j _ hab => by
      cases hq : absorbed rs j m with
      | false => rfl
      | true =>
        obtain ⟨q, y, hy, h1, h2, h3⟩ := absorbed_iff.1 hq
        have hqi : q < i := by
          rcases Nat.lt_or_ge q i with h' | h'
          · exact h'
          · rcases Nat.lt_or_ge i q with h'' | h''
            · have := (hC.hP.mm i q x y h'' hx hy).1; omega
            · have : q = i := by omega
              subst this
              rw [hx] at hy; cases hy; omega
        have : absorbed (rs.take i) j m = true := absorbed_iff.2 ⟨q, y, by rw [List.getElem?_take, if_pos hqi]; exact hy, h1, h2, h3⟩
        rw [hab] at this; simp at this) hview
    have hRv : Rel G K Hv.get w := hI.rel.sub hsub
    obtain ⟨e1, e2⟩ := eff_sound hC.hcall he hev
    refine e2 K w a' next Q (by exact hRv) (fun b h1 h2 => hI.fresh i x hx hnD b h1 (by rw [hid2]; exact h2)) hρ fun v' w1 ⟨K1, hv, hR1, hE1, hd1⟩ => ?_
    have hR1' : Rel G K1 H'.get w1 := hR1
    have hE1' : Ext K Hv.get w K1 H'.get w1 := hE1
    obtain ⟨C', hcC, hvw⟩ := hI.core
    rw [hc] at hcC; cases hcC
    -- the new memory
    let S : Nat → Prop := fun b => ∃ k, Sel rs (fun k => D k ∨ k = i) (m + 1) b k
    have habs : ∀ j, absorbed rs j (m + 1) = false → absorbed rs j m = false := fun j hj => by
      cases hq : absorbed rs j m with
      | false => rfl
      | true =>
        obtain ⟨q, y, hy, h1, h2, h3⟩ := absorbed_iff.1 hq
        have : absorbed rs j (m + 1) = true := absorbed_iff.2 ⟨q, y, hy, h1, by omega, h3⟩
        rw [hj] at this; simp at this
    have hSold : ∀ b k, Sel rs (fun k => D k ∨ k = i) (m + 1) b k → Sel rs D m b k := fun b k ⟨j, y, hy, hD, hk', hid, hab⟩ => by
      rcases hD with hD | hD
      · exact ⟨j, y, hy, hD, hk', hid, habs j hab⟩
      · subst hD
        rw [hx] at hy; cases hy
        rw [hb] at hk'; cases hk'
    have hSh : ∀ b k, Sel rs (fun k => D k ∨ k = i) (m + 1) b k → h b = k := fun b k hs => hvw.new b k (hSold b k hs)
    have hSlive : ∀ b, S b → isRW (h b) := fun b ⟨k, hs⟩ => by
      rw [hSh b k hs]
      obtain ⟨j, y, hy, hD, hk', hid, hab⟩ := hs
      rcases hC.hP.op j y hy with ⟨_, _, _, hb, _⟩ | ⟨_, _, _, _, _, h2⟩ | ⟨_, _, _, hb, _⟩
      · rw [hb] at hk'; cases hk'
      · exact h2 k hk'
      · rw [hb] at hk'; cases hk'
    have hSv : ∀ b, S b → Hv.get b = .dead := fun b ⟨k, hs⟩ => by
      have hs' := hSold b k hs
      obtain ⟨j, y, hy, hD, hk', hid, hab⟩ := hs
      -- not among the view's
      have hidx : ∀ (k : Nat) y, (rs.take i)[k]? = some y → y.1 = 0 + k := fun k y hy => by rw [(hC.hP.idx k y (htk k y hy)).1]; omega
      obtain ⟨_, _, v3⟩ := view_spec (rs.take i) 0 C Hv hidx hview
      have hdead : C.get b = .dead := by
        have := (recheck_at hC.hrc hy).2.2 k hk' m C hc
        rw [(hC.hP.idx j y hy).1, habs j hab, hid] at this
        exact this.resolve_left (by simp)
      rw [v3 b fun q z kk hz hd hkk ha e => ?_, hdead]
      have hz' := htk q z hz
      -- the two are one
      have hqj : q = j := by
        have hz2 : z.2.2.id2 = z.2.2.id + 1 := by
          rcases hC.hP.op q z hz' with ⟨_, _, _, hb, _⟩ | ⟨_, _, _, _, h2, _⟩ | ⟨_, _, _, hb, _⟩
          · rw [hb] at hkk; cases hkk
          · rw [h2, hkk]; rfl
          · rw [hb] at hkk; cases hkk
        have hy2 : y.2.2.id2 = y.2.2.id + 1 := by
          rcases hC.hP.op j y hy with ⟨_, _, _, hb, _⟩ | ⟨_, _, _, _, h2, _⟩ | ⟨_, _, _, hb, _⟩
          · rw [hb] at hk'; cases hk'
          · rw [h2, hk']; rfl
          · rw [hb] at hk'; cases hk'
        rcases Nat.lt_or_ge q j with hlt | hge
        · have := hC.hP.idm q j z y hlt hz' hy; omega
        · rcases Nat.lt_or_ge j q with hlt | hge'
          · have := hC.hP.idm j q y z hlt hy hz'; omega
          · omega
      subst hqj
      have : absorbed rs q (m + 1) = true := absorbed_iff.2 ⟨i, x, hx, hk, by omega, by simpa using hd⟩
      rw [hab] at this; simp at this
    classical
    let h1 : Nat → Blk := fun b => if S b then h b else H'.get b
    have hRK : ∀ b, live (h b) → K1.ρ b = K.ρ b ∧ K.ρ b < w.heap.size ∧ K.dom b := fun b hb => by
      obtain ⟨l1, l2⟩ := (hI.rel.blk b).lt hb
      exact ⟨(hE1'.le b l2).2.1, l1, l2⟩
    have hsubl : ∀ b, live (Hv.get b) → live (h b) ∧ h b = Hv.get b := fun b hb => by
      rcases hsub b with e | e
      · rw [e] at hb; exact hb.elim
      · exact ⟨by rw [e]; exact hb, e⟩
    have himg : ∀ b b', S b → live (H'.get b') → K1.ρ b ≠ K1.ρ b' := fun b b' hb hb' e => by
      have hbl := live_of_isRW (hSlive b hb)
      obtain ⟨q1, q2, q3⟩ := hRK b hbl
      rcases hE1'.img b' hb' with ⟨c, hcl, hce⟩ | hge
      · have hcl' : live (Hv.get c) := hcl
        obtain ⟨s1, s2⟩ := hsubl c hcl'
        have : c = b := hI.rel.inj c b s1 hbl (by rw [hce, ← e, q1])
        subst this
        rw [hSv c hb] at hcl'
        exact hcl'.elim
      · omega
    refine hn (m + 1) K1 w1 _ h1 (hI.add hC hx hnD hdeps (h1 := h1) ?_ ?_ (fun b hb => ?_) ⟨H', hc', ?_⟩ (.inl ⟨hk, rfl, hm⟩) ?_ hv)
    · refine ⟨fun b => ?_, fun b b' hb hb' e => ?_, hR1'.glob⟩
      · by_cases hS : S b
        · simp only [h1, hS, if_true]
          refine (hI.rel.blk b).old hE1'.le fun r hr hlt => hE1'.old r hlt fun c hcl e => ?_
          have hcl' : isRW (Hv.get c) := hcl
          obtain ⟨s1, s2⟩ := hsubl c (live_of_isRW hcl')
          have : c = b := hI.rel.inj c b s1 (live_of_isRW (hSlive b hS)) (by rw [e, hr])
          subst this
          rw [hSv c hS] at hcl'
          exact hcl'.elim
        · simp only [h1, hS, if_false]
          exact hR1'.blk b
      · by_cases hS : S b <;> by_cases hS' : S b' <;> simp only [h1, hS, hS', if_true, if_false] at hb hb'
        · rw [(hRK b hb).1, (hRK b' hb').1] at e
          exact hI.rel.inj b b' hb hb' e
        · exact absurd e (himg b b' hS hb')
        · exact absurd e.symm (himg b' b hS' hb)
        · exact hR1'.inj b b' hb hb' e
    · refine ⟨hE1'.le, hE1'.size, hE1'.os, hE1'.tape, hE1'.output, fun r hr hno => hE1'.old r hr fun c hcl => ?_, fun b hb => ?_, fun b hb => ?_⟩
      · have hcl' : isRW (Hv.get c) := hcl
        obtain ⟨_, s2⟩ := hsubl c (live_of_isRW hcl')
        exact hno c (by rw [s2]; exact hcl')
      · by_cases hS : S b
        · simp only [h1, hS, if_true] at hb
          exact .inl ⟨b, hb, (hRK b hb).1.symm⟩
        · simp only [h1, hS, if_false] at hb
          rcases hE1'.img b hb with ⟨c, hcl, hce⟩ | hge
          · exact .inl ⟨c, (hsubl c hcl).1, hce⟩
          · exact .inr hge
      · by_cases hS : S b
        · simp only [h1, hS, if_true] at hb
          exact .inl ⟨b, hb, (hRK b (live_of_isRW hb)).1.symm⟩
        · simp only [h1, hS, if_false] at hb
          rcases hE1'.imgRW b hb with ⟨c, hcl, hce⟩ | hge
          · have hcl' : isRW (Hv.get c) := hcl
            exact .inl ⟨c, by rw [(hsubl c (live_of_isRW hcl')).2]; exact hcl', hce⟩
          · exact .inr hge
    · rcases hd1 b hb with h | h
      · exact .inl h
      · exact .inr ⟨h.1, by rw [hid2]; exact h.2⟩
    · refine ⟨fun id k hs => ?_, fun b hno => ?_⟩
      · have : S id := ⟨k, hs⟩
        simp only [h1, this, if_true]
        exact hSh id k hs
      · have : ¬ S b := fun ⟨k, hk⟩ => hno k hk
        simp only [h1, this, if_false]
    · have := (hC.hP.ms i x hx).2 hk; omega
end
end Go.Eng
