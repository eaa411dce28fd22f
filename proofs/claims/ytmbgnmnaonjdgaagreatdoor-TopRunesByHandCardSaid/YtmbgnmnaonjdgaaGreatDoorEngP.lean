/- PART OF A PROOF over the given program: EngP. See the last text of the claim for the statement. -/
import Derived.Test.YtmbgnmnaonjdgaaGreatDoorEngO
namespace Go.Eng
open Go

section
variable {P : Program} {G : List Nat} {call : CallF} {ops : Array Oper}
variable {a0 : AAct} {H0 : AH} {aF : AAct} {idF M : Nat} {CF : AH} {cores : List AH} {rs : Recs} {K0 : Kr} {w0 : World} {D : Nat → Prop} {m : Nat} {K : Kr} {w : World} {a' : Act} {h : Nat → Blk}

theorem arr_ext? {a b : Array Value} (h : ∀ i : Nat, a[i]? = b[i]?) : a = b := by
  apply Array.ext'
  apply List.ext_getElem?
  intro i
  simpa using h i

/-- what a store does, in whatever world bears the block. -/
theorem store_explicit {o : Oper} {t : TypeId} {x y : Operand} {ρ : Operand → Option Value} {H H' : AH} {v : Value} (hop : o.op = .store t x y) (hev : evalEff P call o ρ H = some (v, H')) (hR : Rel G K H.get w) (hρ : RhoRel K ρ a'.eval) :
    ∃ (b off : Nat) (e : TypeId) (cur cur' : Array Value) (fr : Nat × Nat), ρ x = some (.pointer (some ⟨b, off, none⟩)) ∧ live (H.get b) ∧ w.heap[K.ρ b]? = some (.cells cur e fr) ∧
      ∀ w2 : World, w2.heap[K.ρ b]? = some (.cells cur e fr) → (execOp a'.eval o).run P w2 = .ok .skip { w2 with heap := w2.heap.setIfInBounds (K.ρ b) (.cells cur' e fr) } := by
  obtain ⟨dst, op, type, pos, after, guard⟩ := o
  simp only at hop; subst hop
  simp only [evalEff] at hev
  split at hev
  · rename_i b off u n hx hy hn
    cases hb : Nat.beq u.cells.size n with
    | false => rw [hb] at hev; simp at hev
    | true =>
      rw [hb] at hev; simp only [cond_true] at hev
      have hsz := Nat.eq_of_beq_eq_true hb
      split at hev
      · rename_i H1 hw1
        have hx' := hρ _ _ hx; have hy' := hρ _ _ hy
        generalize hqx : a'.eval x = qx at hx'; cases hx' with
        | ptr _ _ hd =>
        have hcl := hy'.cells
        have hsz' : (a'.eval y).cells.size = n := by rw [← hcl.1]; exact hsz
        have hlr : LRel K u.cells.toList (a'.eval y).cells.toList := F2_of_arr hcl.1 hcl.2
        have hlen := hlr.length
        unfold AH.write at hw1
        split at hw1
        · rename_i c e es hblk
          cases hat : u.cells.toList.all atomV with
          | false => rw [hat] at hw1; simp at hw1
          | true =>
            rw [hat] at hw1; simp only [cond_true] at hw1
            split at hw1
            · rename_i c' hp
              obtain ⟨_, p2, _⟩ := putCells_spec hp
              obtain ⟨_, _, _, cur, fr, hh, hs2, hle, hcv, hfr⟩ := hR.read hblk
              have hat' : ∀ v' ∈ (a'.eval y).cells.toList, v'.oneCell' = true := fun v' hv' => by
                obtain ⟨i, hi, rfl⟩ := List.getElem_of_mem hv'
                have hi2 : i < u.cells.toList.length := by omega
                obtain ⟨u', hu', hr⟩ := hlr.get i u.cells.toList[i] (by simp [hi2])
                rw [List.getElem?_eq_getElem hi] at hu'
                cases hu'
                exact atom_rel hr (List.all_eq_true.1 hat _ (by simp))
              have hrun := fun (w2 : World) (hh2 : w2.heap[K.ρ b]? = some (.cells cur e fr)) => run_storeCells_blk P (K.ρ b) off e fr (a'.eval y).cells.toList 0 cur w2 hh2 (by omega) hat' (fun j _ hj => unfrozen (hfr rfl) _ (by omega))
              obtain ⟨cur', _, hs3, hg3⟩ := hrun w hh
              refine ⟨b, off, e, cur, cur', fr, hx, by rw [hblk]; trivial, hh, fun w2 hh2 => ?_⟩
              obtain ⟨cur2, hr2, hs4, hg4⟩ := hrun w2 hh2
              have : cur2 = cur' := arr_ext? fun i => by rw [hg3 i, hg4 i]
              subst this
              simp [execOp, Instr.storeAt, Instr.sureAddr, hqx, storeVar, run_sizeOf hn, hsz', hr2]
            · simp at hw1
        · simp at hw1
      · simp at hev
  · simp at hev

/-- two stores stand in no order; the later one is done, the earlier one is not. -/
structure InvS (P : Program) (G : List Nat) (ops : Array Oper) (a0 : AAct) (H0 : AH) (idF M : Nat) (cores : List AH) (rs : Recs) (K0 : Kr) (w0 : World) (D : Nat → Prop) (w : World) (a' : Act) (ix iy : Nat) (x y : Nat × Oper × Rec)
    (K : Kr) (ws : World) (h : Nat → Blk) (c B : Nat) (e : TypeId) (cur cur' : Array Value) (fr : Nat × Nat) : Prop where
  hx : rs[ix]? = some x
  hy : rs[iy]? = some y
  kx : x.2.2.kind = 2
  ky : y.2.2.kind = 2
  xy : ix < iy
  swap : swapOK P G ops rs cores x y = true
  Dy : D iy
  Dx : ¬ D ix
  inv : Inv P G ops a0 H0 idF M cores rs K0 w0 (fun k => D k ∧ k ≠ iy) x.2.2.m K ws a' h
  ydeps : ∀ j, depB y.2.1 j = true → D j ∧ j ≠ iy
  cl : live (h c)
  cB : K.ρ c = B
  cst : storeTo G y.2.1 y.2.2.a = some c
  blk : ws.heap[B]? = some (.cells cur e fr)
  world : w = { ws with heap := ws.heap.setIfInBounds B (.cells cur' e fr) }
  run : ∀ w2 : World, w2.heap[B]? = some (.cells cur e fr) → (execOp a'.eval y.2.1).run P w2 = .ok .skip { w2 with heap := w2.heap.setIfInBounds B (.cells cur' e fr) }

theorem storeTo_spec {o : Oper} {a : AAct} {b : Nat} (h : storeTo G o a = some b) : ∃ t x y off, o.op = .store t x y ∧ o.dst = none ∧ AAct.eval G a x = some (.pointer (some ⟨b, off, none⟩)) := by
  unfold storeTo at h
  split at h
  · rename_i t x y hop hdst
    split at h
    · rename_i b' off hev
      simp only [Option.some.injEq] at h; subst h
      exact ⟨t, x, y, off, hop, hdst, hev⟩
    · simp at h
  · simp at h

theorem swap_spec {x y : Nat × Oper × Rec} (h : swapOK P G ops rs cores x y = true) :
    (∃ b c, storeTo G x.2.1 x.2.2.a = some b ∧ storeTo G y.2.1 y.2.2.a = some c ∧ b ≠ c) ∧ x.2.2.m + 1 = y.2.2.m ∧ y.2.2.m + 2 = cores.length ∧
    (∃ C Hv r, cores[x.2.2.m]? = some C ∧ view rs (depB y.2.1) x.2.2.m rs C = some Hv ∧ evalEff P (fun _ _ _ => none) y.2.1 (restr ops y.2.1 (AAct.eval G y.2.2.a)) { Hv with next := y.2.2.id } = some r) ∧
    ∀ z ∈ rs, depB y.2.1 z.1 = true ∨ depB z.2.1 x.1 = true ∨ z.1 = x.1 ∨ z.1 = y.1 ∨
      ((z.2.2.kind = 0 ∨ (z.2.2.kind = 1 ∧ readsMem z.2.1 = false)) ∧ z.2.2.blk = none ∧ depB z.2.1 y.1 = false ∧ ∀ d, z.2.1.dst = some d → d ∉ namesOf ops y.2.1) := by
  unfold swapOK at h
  simp only [Bool.and_eq_true] at h
  obtain ⟨⟨⟨⟨h1, h2⟩, h3⟩, h4⟩, h5⟩ := h
  refine ⟨?_, Nat.eq_of_beq_eq_true h2, Nat.eq_of_beq_eq_true h3, ?_, fun z hz => ?_⟩
  · split at h1
    · rename_i b c hb hc
      refine ⟨b, c, hb, hc, fun e => ?_⟩
      rw [e] at h1; simp at h1
    · simp at h1
  · split at h4
    · rename_i C hC
      split at h4
      · rename_i Hv hv
        obtain ⟨r, hr⟩ := Option.isSome_iff_exists.1 h4
        exact ⟨C, Hv, r, hC, hv, hr⟩
      · simp at h4
    · simp at h4
  · have := List.all_eq_true.1 h5 z hz
    simp only [Bool.or_eq_true] at this
    rcases this with (((h | h) | h) | h) | h
    · exact .inl h
    · exact .inr (.inl h)
    · exact .inr (.inr (.inl (Nat.eq_of_beq_eq_true h)))
    · exact .inr (.inr (.inr (.inl (Nat.eq_of_beq_eq_true h))))
    · simp only [Bool.and_eq_true, Bool.or_eq_true, Bool.not_eq_true', Option.isNone_iff_eq_none] at h
      obtain ⟨⟨⟨h1, h2⟩, h3⟩, h4⟩ := h
      refine .inr (.inr (.inr (.inr ⟨?_, h2, h3, fun d hd hn => ?_⟩)))
      · rcases h1 with h1 | h1
        · exact .inl (Nat.eq_of_beq_eq_true h1)
        · exact .inr ⟨Nat.eq_of_beq_eq_true h1.1, h1.2⟩
      · rw [hd] at h4
        simp only [Bool.not_eq_true'] at h4
        have : (namesOf ops y.2.1).any (Nat.beq d) = true := List.any_eq_true.2 ⟨d, hn, by simp⟩
        rw [h4] at this; simp at this

theorem restr_some {o : Oper} {ρ : Operand → Option Value} {x : Operand} {v : Value} (h : restr ops o ρ x = some v) : ρ x = some v := by
  cases x with
  | tmp t =>
    simp only [restr] at h
    cases hb : (namesOf ops o).any (Nat.beq t) with
    | false => rw [hb] at h; simp at h
    | true => rw [hb] at h; simpa using h
  | _ => exact h

def State (P : Program) (G : List Nat) (ops : Array Oper) (a0 : AAct) (H0 : AH) (idF M : Nat) (cores : List AH) (rs : Recs) (K0 : Kr) (w0 : World) (D : Nat → Prop) (w : World) (a' : Act) : Prop :=
  (∃ m K h, Inv P G ops a0 H0 idF M cores rs K0 w0 D m K w a' h) ∨ (∃ ix iy x y K ws h c B e cur cur' fr, InvS P G ops a0 H0 idF M cores rs K0 w0 D w a' ix iy x y K ws h c B e cur cur' fr)

theorem wp_skip_inv {o : Oper} {w1 : World} {next : Act → World → Prop} (hrun : (execOp a'.eval o).run P w = .ok .skip w1) (hd : o.dst = none)
    (h : o.wp P a' w next (fun _ _ _ => False) ∨ (o.asks P a' w ∧ LetsOut (fun _ _ _ => False))) : next a' w1 := by
  rcases h with h | ⟨_, _, _, h⟩
  · unfold Oper.wp at h
    rw [hrun, Oper.upon_skip, hd] at h
    exact h
  · exact h.elim

theorem step_to (hC : Ctx P G call ops a0 H0 aF idF M CF cores rs K0 w0) (hI : Inv P G ops a0 H0 idF M cores rs K0 w0 D m K w a' h) {i : Nat} {x : Nat × Oper × Rec} (hx : rs[i]? = some x) (hnD : ¬ D i)
    (hdeps : ∀ j, depB x.2.1 j = true → D j) (hk : x.2.2.kind = 2) (hmi : x.2.2.m = m) {w1 : World} (hd : x.2.1.dst = none) (hw : wantedA ops x.2.2.a x.2.1 = some true) (hrun : (execOp a'.eval x.2.1).run P w = .ok .skip w1) :
    ∃ m1 K1 h1, Inv P G ops a0 H0 idF M cores rs K0 w0 (fun k => D k ∨ k = i) m1 K1 w1 a' h1 := by
  have := hI.step hC hx hnD hdeps (fun _ => hmi) (fun _ _ _ => False) (fun a1 w1 => ∃ m1 K1 h1, Inv P G ops a0 H0 idF M cores rs K0 w0 (fun k => D k ∨ k = i) m1 K1 w1 a1 h1) (fun m1 K1 w1 a1 h1 hh => ⟨m1, K1, h1, hh⟩)
  unfold wpOp at this
  rw [(hC.hP.idx i x hx).2] at this
  simp only [hI.wanted hC hx hnD hdeps hw, if_true] at this
  exact wp_skip_inv hrun hd this

theorem wanted_of_eff (hC : Ctx P G call ops a0 H0 aF idF M CF cores rs K0 w0) {i : Nat} {x : Nat × Oper × Rec} (hx : rs[i]? = some x) (hk : x.2.2.kind = 2) :
    wantedA ops x.2.2.a x.2.1 = some true ∧ ∃ C Hv H', cores[x.2.2.m]? = some C ∧ view (rs.take i) (depB x.2.1) x.2.2.m (rs.take i) C = some Hv ∧
      evalEff P call x.2.1 (restr ops x.2.1 (AAct.eval G x.2.2.a)) { Hv with next := x.2.2.id } = some (x.2.2.v, H') := by
  rcases hC.hP.op i x hx with ⟨h, _⟩ | ⟨h, _⟩ | ⟨_, hw, _, _, C, Hv, H', hc, hview, hev, _⟩
  · omega
  · omega
  · exact ⟨hw, C, Hv, H', hc, hview, hev⟩

theorem take_view_sub (hC : Ctx P G call ops a0 H0 aF idF M CF cores rs K0 w0) (hI : Inv P G ops a0 H0 idF M cores rs K0 w0 D m K w a' h) {i : Nat} {x : Nat × Oper × Rec} (hx : rs[i]? = some x)
    (hdeps : ∀ j, depB x.2.1 j = true → D j) (hm : x.2.2.m = m) {C Hv : AH} (hc : cores[m]? = some C) (hview : view (rs.take i) (depB x.2.1) m (rs.take i) C = some Hv) : Sub Hv.get h :=
  (view_sub hC hI hdeps hc (fun k y hy => by
    rw [List.getElem?_take] at hy
    split at hy
    · exact hy
    · simp at hy) (fun j _ hab => by
    cases hq : absorbed rs j m with
    | false => rfl
    | true =>
      obtain ⟨q, y, hy, h1, h2, h3⟩ := absorbed_iff.1 hq
      have hqi : q < i := by
        rcases Nat.lt_or_ge q i with h' | h'
        · exact h'
        · rcases Nat.lt_or_ge i q with h'' | h''
          · have := (hC.hP.mm i q x y h'' hx hy).1; omega
          · have : q = i := by omega
            subst this
            rw [hx] at hy; cases hy; omega
      have : absorbed (rs.take i) j m = true := absorbed_iff.2 ⟨q, y, by rw [List.getElem?_take, if_pos hqi]; exact hy, h1, h2, h3⟩
      rw [hab] at this; simp at this) hview).1

theorem set_comm {l : Array Obj} {i j : Nat} {a b : Obj} (h : i ≠ j) : (l.setIfInBounds i a).setIfInBounds j b = (l.setIfInBounds j b).setIfInBounds i a := by
  rw [Array.setIfInBounds_comm _ _ h]

/-- EVERY OPERATION THAT MAY COME NEXT. -/
theorem state_step (hC : Ctx P G call ops a0 H0 aF idF M CF cores rs K0 w0) (hS : State P G ops a0 H0 idF M cores rs K0 w0 D w a') {i : Nat} {z : Nat × Oper × Rec} (hz : rs[i]? = some z) (hnD : ¬ D i)
    (hdeps : ∀ j, depB z.2.1 j = true → D j) (Q : Exit → Act → World → Prop) (next : Act → World → Prop)
    (hn : ∀ w1 a1', State P G ops a0 H0 idF M cores rs K0 w0 (fun k => D k ∨ k = i) w1 a1' → next a1' w1) : wpOp P ops Q i next a' w := by
  have hoz := (hC.hP.idx i z hz).2
  rcases hS with ⟨m, K, h, hI⟩ | ⟨ix, iy, x, y, K, ws, h, c, B, e, cur, cur', fr, hI⟩
  · by_cases hchain : z.2.2.kind = 2 → z.2.2.m = m
    · exact hI.step hC hz hnD hdeps hchain Q next fun m1 K1 w1 a1' h1 hh => hn w1 a1' (.inl ⟨m1, K1, h1, hh⟩)
    · -- the later store first
      have hk : z.2.2.kind = 2 := by
        by_cases e : z.2.2.kind = 2
        · exact e
        · exact absurd (fun h => absurd h e) hchain
      have hne : z.2.2.m ≠ m := fun e => hchain fun _ => e
      have hge : ¬ z.2.2.m < m := fun hlt => hnD ((hI.effs i z hz hk).2 hlt)
      have hzM := (hC.hP.ms i z hz).2 hk
      obtain ⟨ix, x, hx, hkx, hxm⟩ := hC.hP.msur m (by omega)
      have hxi : ix < i := by
        rcases Nat.lt_or_ge ix i with h' | h'
        · exact h'
        · rcases Nat.lt_or_ge i ix with h'' | h''
          · have := (hC.hP.mm i ix z x h'' hz hx).1; omega
          · have : ix = i := by omega
            subst this
            rw [hx] at hz; cases hz; omega
      have hDx : ¬ D ix := fun e => by have := (hI.effs ix x hx hkx).1 e; omega
      have hsw : swapOK P G ops rs cores x z = true := by
        have := (recheck_at hC.hrc hz).2.1 hk x (List.mem_of_getElem? hx) hkx (by rw [(hC.hP.idx ix x hx).1, (hC.hP.idx i z hz).1]; exact hxi)
        rcases this with h | h
        · rw [(hC.hP.idx ix x hx).1] at h
          exact absurd (hdeps ix h) hDx
        · exact h
      obtain ⟨⟨b, c, hb, hc, hbc⟩, hm1, hm2, ⟨C, Hv, r, hCc, hview, hev⟩, hall⟩ := swap_spec hsw
      obtain ⟨t, xo, yo, off, hop, hdst, hptr⟩ := storeTo_spec hc
      have hw := (wanted_of_eff hC hz hk).1
      rw [hxm] at hCc hview
      obtain ⟨hsub, _⟩ := view_sub hC hI hdeps hCc (fun _ _ h => h) (fun _ _ h => h) hview
      have hRv : Rel G K Hv.get w := hI.rel.sub hsub
      have hρ := hI.rho hC hz hnD hdeps
      obtain ⟨c2, off2, e, cur, cur', fr, hρx, hlive, hblk, hrun⟩ := store_explicit (w := w) (H := { Hv with next := z.2.2.id }) hop hev (by exact hRv) hρ
      have hc2 : c2 = c := by
        have := restr_some hρx
        rw [hptr] at this
        simp only [Option.some.injEq, Value.pointer.injEq, Addr.mk.injEq] at this
        exact this.1.symm
      subst hc2
      have hlive' : live (h c2) := by
        have hl : live (Hv.get c2) := hlive
        rcases hsub c2 with e' | e'
        · rw [e'] at hl; exact hl.elim
        · rw [e']; exact hl
      unfold wpOp
      rw [hoz]
      simp only [hI.wanted hC hz hnD hdeps hw, if_true]
      left
      refine wp_of_skip (hrun w hblk) ?_
      rw [hdst]
      refine hn _ a' (.inr ⟨ix, i, x, z, K, w, h, c2, K.ρ c2, e, cur, cur', fr, ⟨hx, hz, hkx, hk, hxi, hsw, .inr rfl, fun h => ?_, ?_, fun j hj => ⟨.inl (hdeps j hj), fun e => hnD (e ▸ hdeps j hj)⟩, hlive', rfl, hc, hblk, rfl, hrun⟩⟩)
      · rcases h with h | h
        · exact hDx h
        · omega
      · have hDe : (fun k => (D k ∨ k = i) ∧ k ≠ i) = D := by
          funext k
          apply propext
          constructor
          · rintro ⟨h | h, hne⟩
            · exact h
            · exact absurd h hne
          · intro h; exact ⟨.inl h, fun e => hnD (e ▸ h)⟩
        rw [hDe, hxm]
        exact hI
  · -- swapped
    obtain ⟨⟨b, c', hb, hc', hbc⟩, hm1, hm2, _, hall⟩ := swap_spec hI.swap
    have hcc : c' = c := by rw [hI.cst] at hc'; exact (Option.some.inj hc').symm
    subst hcc
    have hine : i ≠ iy := fun e => hnD (e ▸ hI.Dy)
    by_cases hix : i = ix
    · -- the earlier store
      subst hix
      have hzx : z = x := by have := hI.hx; rw [hz] at this; exact Option.some.inj this
      subst hzx
      obtain ⟨t, xo, yo, off, hop, hdst, hptr⟩ := storeTo_spec hb
      obtain ⟨hw, C, Hv, H', hCc, hview, hev⟩ := wanted_of_eff hC hz hI.kx
      have hoy := (hC.hP.idx iy y hI.hy).2
      have hdeps' : ∀ j, depB z.2.1 j = true → D j ∧ j ≠ iy := fun j hj => ⟨hdeps j hj, fun e => by
        subst e
        have := static_back hC.hs hoz hj
        have := hI.xy
        omega⟩
      have hnD' : ¬ (D i ∧ i ≠ iy) := fun h => hnD h.1
      have hsub := take_view_sub hC hI.inv hz hdeps' rfl hCc hview
      have hRv : Rel G K Hv.get ws := hI.inv.rel.sub hsub
      have hρ := hI.inv.rho hC hz hnD' hdeps'
      obtain ⟨b2, off2, e2, cur2, cur2', fr2, hρx, hlive, hblk, hrun⟩ := store_explicit (w := ws) (H := { Hv with next := z.2.2.id }) hop hev (by exact hRv) hρ
      have hb2 : b2 = b := by
        have := restr_some hρx
        rw [hptr] at this
        simp only [Option.some.injEq, Value.pointer.injEq, Addr.mk.injEq] at this
        exact this.1.symm
      subst hb2
      have hliveb : live (h b2) := by
        have hl : live (Hv.get b2) := hlive
        rcases hsub b2 with e' | e'
        · rw [e'] at hl; exact hl.elim
        · rw [e']; exact hl
      have hBne : K.ρ b2 ≠ B := fun e => hbc (hI.inv.rel.inj b2 c' hliveb hI.cl (by rw [e, hI.cB]))
      have hblkw : w.heap[K.ρ b2]? = some (.cells cur2 e2 fr2) := by
        rw [hI.world]
        simp only [Array.getElem?_setIfInBounds]
        rw [if_neg (fun e => hBne e.symm)]
        exact hblk
      obtain ⟨m1, K1, h1, hI1⟩ := step_to hC hI.inv hz hnD' hdeps' hI.kx rfl hdst hw (hrun ws hblk)
      have hwantedw : Region.wanted z.2.1 (yielded ops a'.tmps) = true := hI.inv.wanted hC hz hnD' hdeps' hw
      -- the later store, done behind it
      obtain ⟨tY, xY, yY, offY, hopY, hdstY, _⟩ := storeTo_spec hI.cst
      have hwY := (wanted_of_eff hC hI.hy hI.ky).1
      have hnDy : ¬ ((D iy ∧ iy ≠ iy) ∨ iy = i) := by rintro (⟨_, h⟩ | h); exact h rfl; exact hine h.symm
      have hm1' : m1 = y.2.2.m := by
        have e1 := (hI1.effs i z hz hI.kx).1 (.inr rfl)
        have e2 : ¬ y.2.2.m < m1 := fun hlt => hnDy ((hI1.effs iy y hI.hy hI.ky).2 hlt)
        omega
      have hblkY : ({ ws with heap := ws.heap.setIfInBounds (K.ρ b2) (.cells cur2' e2 fr2) } : World).heap[B]? = some (.cells cur e fr) := by
        simp only [Array.getElem?_setIfInBounds]
        rw [if_neg hBne]
        exact hI.blk
      obtain ⟨m2, K2, h2, hI2⟩ := step_to hC hI1 hI.hy hnDy (fun j hj => .inl (hI.ydeps j hj)) hI.ky hm1'.symm hdstY hwY (hI.run _ hblkY)
      have hDe : (fun k => ((D k ∧ k ≠ iy) ∨ k = i) ∨ k = iy) = fun k => D k ∨ k = i := by
        funext k
        apply propext
        constructor
        · rintro ((⟨h, _⟩ | h) | h)
          · exact .inl h
          · exact .inr h
          · subst h; exact .inl hI.Dy
        · rintro (h | h)
          · by_cases hk : k = iy
            · exact .inr hk
            · exact .inl (.inl ⟨h, hk⟩)
          · exact .inl (.inr h)
      rw [hDe] at hI2
      unfold wpOp
      rw [hoz]
      simp only [hwantedw, if_true]
      left
      refine wp_of_skip (hrun w hblkw) ?_
      rw [hdst]
      have hweq : ({ w with heap := w.heap.setIfInBounds (K.ρ b2) (.cells cur2' e2 fr2) } : World) = { ({ ws with heap := ws.heap.setIfInBounds (K.ρ b2) (.cells cur2' e2 fr2) } : World) with heap := (ws.heap.setIfInBounds (K.ρ b2) (.cells cur2' e2 fr2)).setIfInBounds B (.cells cur' e fr) } := by
        rw [hI.world]
        simp only
        rw [set_comm (fun e => hBne e.symm)]
      rw [hweq]
      exact hn _ a' (.inl ⟨m2, K2, h2, hI2⟩)
    · -- what turns nothing
      have hz5 : (z.2.2.kind = 0 ∨ (z.2.2.kind = 1 ∧ readsMem z.2.1 = false)) ∧ z.2.2.blk = none ∧ depB z.2.1 y.1 = false ∧ ∀ d, z.2.1.dst = some d → d ∉ namesOf ops y.2.1 := by
        rcases hall z (List.mem_of_getElem? hz) with h | h | h | h | h
        · rw [(hC.hP.idx i z hz).1] at h
          exact absurd (hI.ydeps i h).1 hnD
        · rw [(hC.hP.idx ix x hI.hx).1] at h
          exact absurd (hdeps ix h) hI.Dx
        · rw [(hC.hP.idx i z hz).1, (hC.hP.idx ix x hI.hx).1] at h
          exact absurd h hix
        · rw [(hC.hP.idx i z hz).1, (hC.hP.idx iy y hI.hy).1] at h
          exact absurd h hine
        · exact h
      obtain ⟨hk, hbn, hdy, hnames⟩ := hz5
      rw [(hC.hP.idx iy y hI.hy).1] at hdy
      have hdeps' : ∀ j, depB z.2.1 j = true → D j ∧ j ≠ iy := fun j hj => ⟨hdeps j hj, fun e => by subst e; rw [hdy] at hj; simp at hj⟩
      have hnD' : ¬ (D i ∧ i ≠ iy) := fun h => hnD h.1
      obtain ⟨tY, xY, yY, offY, hopY, hdstY, _⟩ := storeTo_spec hI.cst
      have hsel : ∀ cs b, y.2.1.op ≠ .select cs b := fun cs b e => by rw [hopY] at e; cases e
      have hDe : (fun k => (D k ∧ k ≠ iy) ∨ k = i) = fun k => (D k ∨ k = i) ∧ k ≠ iy := by
        funext k
        apply propext
        constructor
        · rintro (⟨h1, h2⟩ | h)
          · exact ⟨.inl h1, h2⟩
          · subst h; exact ⟨.inr rfl, hine⟩
        · rintro ⟨h1 | h1, h2⟩
          · exact .inl ⟨h1, h2⟩
          · exact .inr h1
      have fin : ∀ v', VRel K z.2.2.v v' → State P G ops a0 H0 idF M cores rs K0 w0 (fun k => D k ∨ k = i) w (a'.put z.2.1.dst v') := fun v' hv => by
        have hnew := hI.inv.addPure hC hz hnD' hdeps' (by rcases hk with h | h <;> omega) hbn hv
        rw [hDe] at hnew
        have hex : execOp (a'.put z.2.1.dst v').eval y.2.1 = execOp a'.eval y.2.1 := execOp_put (ops := ops) y.2.1 hsel a' z.2.1.dst v' fun d hd hmem => hnames d hd (by unfold namesOf; exact List.mem_append_right _ hmem)
        refine .inr ⟨ix, iy, x, y, K, ws, h, c', B, e, cur, cur', fr, ⟨hI.hx, hI.hy, hI.kx, hI.ky, hI.xy, hI.swap, .inl hI.Dy, fun h => ?_, hnew, fun j hj => ⟨.inl (hI.ydeps j hj).1, (hI.ydeps j hj).2⟩, hI.cl, hI.cB, hI.cst, hI.blk, hI.world, fun w2 h2 => by rw [hex]; exact hI.run w2 h2⟩⟩
        rcases h with h | h
        · exact hI.Dx h
        · exact hix h.symm
      unfold wpOp
      rw [hoz]
      simp only
      rcases hC.hP.op i z hz with ⟨_, hw, hv, _⟩ | ⟨hk1, hw, he, ⟨Hv, hev⟩, _, _⟩ | ⟨hk2, _⟩
      · rw [hI.inv.wanted hC hz hnD' hdeps' hw]
        simp only [Bool.false_eq_true, if_false]
        exact hn _ _ (fin undef (by rw [hv]; exact undef_rel))
      · rw [hI.inv.wanted hC hz hnD' hdeps' hw]
        simp only [if_true]
        left
        have hrm : readsMem z.2.1 = false := by
          rcases hk with h | h
          · omega
          · exact h.2
        have hρ := hI.inv.rho hC hz hnD' hdeps'
        have hfl := float_sound (w := w) hρ (Rel_deadH hI.inv.rel.glob) ((float_noMem hrm deadH Hv).trans hev)
        rw [hbn] at hfl
        obtain ⟨v', hrun, hv⟩ := hfl
        exact wp_of_run hrun (hn _ _ (fin v' hv))
      · rcases hk with h | h <;> omega
end
end Go.Eng
