/- PART OF A PROOF over the given program: EngN. See the last text of the claim for the statement. -/
import Derived.Test.YtmbgnmnaonjdgaaGreatDoorEngM
namespace Go.Eng
open Go

section
variable {P : Program} {G : List Nat} {call : CallF} {ops : Array Oper}

theorem static_back (hs : regStatic ops = true) {i j : Nat} {o : Oper} (ho : ops[i]? = some o) (hd : depB o j = true) : j < i := by
  unfold regStatic at hs
  have hm : (o, i) ∈ ops.toList.zipIdx := by rw [List.mem_zipIdx_iff_getElem?]; simpa using ho
  have h1 := List.all_eq_true.1 hs _ hm
  simp only [Bool.and_eq_true] at h1
  unfold depB at hd
  obtain ⟨e, he, hb⟩ := List.any_eq_true.1 hd
  simp only [Bool.and_eq_true] at hb
  have h2 := List.all_eq_true.1 h1.1 e he
  simp only [Bool.or_eq_true, Bool.not_eq_true'] at h2
  rcases h2 with h2 | h2
  · rw [h2] at hb; simp at hb
  · have := Nat.eq_of_beq_eq_true hb.2
    have := Nat.le_of_ble_eq_true h2
    omega

theorem static_names (hs : regStatic ops = true) {i j : Nat} {o o' : Oper} {d : Tmp} (ho : ops[i]? = some o) (ho' : ops[j]? = some o') (hne : i ≠ j) (hd : o'.dst = some d) (hn : d ∈ namesOf ops o) :
    depB o j = true ∨ depB o' i = true := by
  unfold regStatic at hs
  have hm : (o, i) ∈ ops.toList.zipIdx := by rw [List.mem_zipIdx_iff_getElem?]; simpa using ho
  have hm' : (o', j) ∈ ops.toList.zipIdx := by rw [List.mem_zipIdx_iff_getElem?]; simpa using ho'
  have h1 := List.all_eq_true.1 hs _ hm
  simp only [Bool.and_eq_true] at h1
  have h2 := List.all_eq_true.1 h1.2 _ hm'
  simp only [hd, Bool.or_eq_true, Bool.not_eq_true'] at h2
  rcases h2 with h2 | ((h2 | h2) | h2)
  · exact absurd (Nat.eq_of_beq_eq_true h2) hne
  · have : (namesOf ops o).any (Nat.beq d) = true := List.any_eq_true.2 ⟨d, hn, by simp⟩
    rw [h2] at this; simp at this
  · exact .inl h2
  · exact .inr h2

/-! ### what the second look gives -/
theorem recheck_at {rs : Recs} {cores : List AH} (h : recheck P G ops rs cores = true) {i : Nat} {x : Nat × Oper × Rec} (hx : rs[i]? = some x) :
    (x.2.2.kind = 1 → readsMem x.2.1 = true → ∀ (m : Nat) C, cores[m]? = some C →
      (∃ y ∈ rs, y.2.2.kind = 2 ∧ ((depB x.2.1 y.1 = true ∧ m ≤ y.2.2.m) ∨ (depB y.2.1 x.1 = true ∧ y.2.2.m < m))) ∨
      (∃ Hv, view rs (depB x.2.1) m rs C = some Hv ∧ evalFloat P x.2.1 (restr ops x.2.1 (AAct.eval G x.2.2.a)) Hv x.2.2.id = some (x.2.2.v, none))) ∧
    (x.2.2.kind = 2 → ∀ y ∈ rs, y.2.2.kind = 2 → y.1 < x.1 → depB x.2.1 y.1 = true ∨ swapOK P G ops rs cores y x = true) ∧
    (∀ k, x.2.2.blk = some k → ∀ (m : Nat) C, cores[m]? = some C → absorbed rs x.1 m = true ∨ C.get x.2.2.id = .dead) := by
  unfold recheck at h
  have hm := List.all_eq_true.1 h x (List.mem_of_getElem? hx)
  simp only [Bool.and_eq_true] at hm
  obtain ⟨⟨h1, h2⟩, h3⟩ := hm
  refine ⟨fun hk hr m C hC => ?_, fun hk y hy hky hlt => ?_, fun k hk m C hC => ?_⟩
  · rw [hk, hr] at h1
    simp only [Nat.beq_refl, Bool.and_self, cond_true] at h1
    have hm : (C, m) ∈ cores.zipIdx := by rw [List.mem_zipIdx_iff_getElem?]; simpa using hC
    have := List.all_eq_true.1 h1 _ hm
    simp only [Bool.or_eq_true] at this
    rcases this with this | this
    · left
      obtain ⟨y, hy, hyy⟩ := List.any_eq_true.1 this
      simp only [Bool.and_eq_true, Bool.or_eq_true] at hyy
      refine ⟨y, hy, Nat.eq_of_beq_eq_true hyy.1, ?_⟩
      rcases hyy.2 with ⟨a, b⟩ | ⟨a, b⟩
      · exact .inl ⟨a, Nat.le_of_ble_eq_true b⟩
      · exact .inr ⟨a, Nat.le_of_ble_eq_true b⟩
    · right
      split at this
      · rename_i Hv hv
        split at this
        · rename_i v hev
          refine ⟨Hv, hv, ?_⟩
          rw [← eqbV_eq _ _ _ this]; exact hev
        · simp at this
      · simp at this
  · rw [hk] at h2
    simp only [Nat.beq_refl, cond_true] at h2
    have := List.all_eq_true.1 h2 y hy
    simp only [Bool.or_eq_true, Bool.not_eq_true', Bool.and_eq_false_iff] at this
    rcases this with ((this | this) | this) | this
    · rw [hky] at this; simp at this
    · have h' : Nat.blt y.1 x.1 = true := Nat.ble_eq_true_of_le hlt
      rw [h'] at this; simp at this
    · exact .inl this
    · exact .inr this
  · simp only [hk] at h3
    have hm : (C, m) ∈ cores.zipIdx := by rw [List.mem_zipIdx_iff_getElem?]; simpa using hC
    have := List.all_eq_true.1 h3 _ hm
    simp only [Bool.or_eq_true] at this
    rcases this with this | this
    · exact .inl this
    · exact .inr (isDead_iff.1 this)

/-! ### the invariant -/
structure Ctx (P : Program) (G : List Nat) (call : CallF) (ops : Array Oper) (a0 : AAct) (H0 : AH) (aF : AAct) (idF M : Nat) (CF : AH) (cores : List AH) (rs : Recs) (K0 : Kr) (w0 : World) : Prop where
  hP : PInv P G call ops a0 H0 ops.size aF idF M CF cores rs
  hs : regStatic ops = true
  hrc : recheck P G ops rs cores = true
  hcall : CallOK P G call
  hf : Fresh K0 H0.next idF

structure Inv (P : Program) (G : List Nat) (ops : Array Oper) (a0 : AAct) (H0 : AH) (idF M : Nat) (cores : List AH) (rs : Recs) (K0 : Kr) (w0 : World) (D : Nat → Prop) (m : Nat) (K : Kr) (w : World) (a' : Act) (h : Nat → Blk) : Prop where
  closed : ∀ (i : Nat) o j, D i → ops[i]? = some o → depB o j = true → D j
  effs : ∀ (i : Nat) x, rs[i]? = some x → x.2.2.kind = 2 → (D i ↔ x.2.2.m < m)
  mle : m ≤ M
  core : ∃ C, cores[m]? = some C ∧ IsView rs D m C.get h
  rel : Rel G K h w
  ext : Ext K0 H0.get w0 K h w
  dom : ∀ b, K.dom b → K0.dom b ∨ (H0.next ≤ b ∧ b < idF)
  fresh : ∀ (i : Nat) x, rs[i]? = some x → ¬ D i → ∀ b, x.2.2.id ≤ b → b < x.2.2.id2 → ¬ K.dom b
  size : a'.tmps.size = a0.n
  t1 : ∀ (j : Nat) x t, rs[j]? = some x → D j → x.2.1.dst = some t → (∀ (j' : Nat) x', rs[j']? = some x' → D j' → x'.2.1.dst = some t → j' ≤ j) → VRel K x.2.2.v (a'.tmps.getD t undef)
  t2 : ∀ t v, (∀ (j : Nat) x, rs[j]? = some x → D j → x.2.1.dst ≠ some t) → a0.look t = some v → VRel K v (a'.tmps.getD t undef)
  defers : F2 (DefRel P) a0.defers a'.defers

variable {a0 : AAct} {H0 : AH} {aF : AAct} {idF M : Nat} {CF : AH} {cores : List AH} {rs : Recs} {K0 : Kr} {w0 : World} {D : Nat → Prop} {m : Nat} {K : Kr} {w : World} {a' : Act} {h : Nat → Blk}

theorem Inv.sees (hC : Ctx P G call ops a0 H0 aF idF M CF cores rs K0 w0) (hI : Inv P G ops a0 H0 idF M cores rs K0 w0 D m K w a' h) {i : Nat} {x : Nat × Oper × Rec} (hx : rs[i]? = some x) (hnD : ¬ D i)
    (hdeps : ∀ j, depB x.2.1 j = true → D j) {t : Tmp} (ht : t ∈ namesOf ops x.2.1) {v : Value} (hv : x.2.2.a.look t = some v) : VRel K v (a'.tmps.getD t undef) := by
  have hox := (hC.hP.idx i x hx).2
  have later : ∀ (j' : Nat) x', rs[j']? = some x' → D j' → x'.2.1.dst = some t → j' < i := fun j' x' hx' hD' hd' => by
    have hne : i ≠ j' := fun e => hnD (e ▸ hD')
    have ho' := (hC.hP.idx j' x' hx').2
    rcases static_names hC.hs hox ho' hne hd' ht with h | h
    · exact static_back hC.hs hox h
    · exact absurd (hI.closed j' _ i hD' ho' h) hnD
  obtain ⟨_, _, hl⟩ := hC.hP.looks i x hx
  rcases hl t v hv with ⟨j, y, hj, hy, hd, hvv, hlast⟩ | ⟨hno, h0⟩
  · have hoy := (hC.hP.idx j y hy).2
    have hDj : D j := by
      rcases static_names hC.hs hox hoy (by omega) hd ht with h | h
      · exact hdeps j h
      · have := static_back hC.hs hoy h; omega
    rw [← hvv]
    refine hI.t1 j y t hy hDj hd fun j' x' hx' hD' hd' => ?_
    have := later j' x' hx' hD' hd'
    rcases Nat.lt_or_ge j j' with h' | h'
    · exact absurd hd' (hlast j' x' h' this hx')
    · exact h'
  · exact hI.t2 t v (fun j y hy hD hd => hno j y (later j y hy hD hd) hy hd) h0

theorem rho_other {K : Kr} {h : Nat → Blk} {w : World} (hR : Rel G K h w) {a : AAct} {a' : Act} {x : Operand} {v : Value} (hx : AAct.eval G a x = some v) (hnt : ∀ t, x ≠ .tmp t) : VRel K v (a'.eval x) := by
  cases x with
  | tmp t => exact absurd rfl (hnt t)
  | const c =>
    simp only [AAct.eval] at hx
    cases hp : plainV c <;> rw [hp] at hx <;> simp at hx
    subst hx; exact .of_plain 8 _ hp
  | global g =>
    simp only [AAct.eval] at hx
    cases hb : G.any (Nat.beq g) with
    | false => rw [hb] at hx; simp at hx
    | true =>
      rw [hb] at hx; simp only [cond_true, Option.some.injEq] at hx; subst hx
      obtain ⟨g', hg', he⟩ := List.any_eq_true.1 hb
      have := Nat.eq_of_beq_eq_true he
      subst this
      obtain ⟨d, r⟩ := hR.glob g hg'
      have := VRel.ptr (K := K) g 0 d
      rw [r] at this
      exact this
  | func f =>
    simp only [AAct.eval, Option.some.injEq] at hx; subst hx
    exact .func _ _ _ _ _ rfl (fun i v v' h1 _ => by simp at h1) rfl (fun i v v' h1 _ => by simp at h1)

theorem Inv.rho (hC : Ctx P G call ops a0 H0 aF idF M CF cores rs K0 w0) (hI : Inv P G ops a0 H0 idF M cores rs K0 w0 D m K w a' h) {i : Nat} {x : Nat × Oper × Rec} (hx : rs[i]? = some x) (hnD : ¬ D i)
    (hdeps : ∀ j, depB x.2.1 j = true → D j) : RhoRel K (restr ops x.2.1 (AAct.eval G x.2.2.a)) a'.eval := by
  intro y v hy
  cases y with
  | tmp t =>
    simp only [restr] at hy
    cases hb : (namesOf ops x.2.1).any (Nat.beq t) with
    | false => rw [hb] at hy; simp at hy
    | true =>
      rw [hb] at hy; simp only [cond_true] at hy
      obtain ⟨t', ht', he⟩ := List.any_eq_true.1 hb
      have := Nat.eq_of_beq_eq_true he
      subst this
      exact hI.sees hC hx hnD hdeps ht' hy
  | const c => exact rho_other hI.rel (a := x.2.2.a) hy (fun t e => by cases e)
  | global g => exact rho_other hI.rel (a := x.2.2.a) hy (fun t e => by cases e)
  | func f => exact rho_other hI.rel (a := x.2.2.a) hy (fun t e => by cases e)

theorem wanted_sound2 {a : AAct} {a' : Act} {o : Oper} {b : Bool} (hsz : a'.tmps.size = a.n) (ht : ∀ d ∈ o.looksAt ops, ∀ v, a.look d = some v → VRel K v (a'.tmps.getD d undef)) (h : wantedA ops a o = some b) : Region.wanted o (yielded ops a'.tmps) = b := by
  unfold wantedA at h
  unfold Region.wanted
  split at h
  · rename_i hg
    simp only [Option.some.injEq] at h; subst h
    simp [hg]
  · rename_i j want hg
    simp only [hg]
    split at h
    · rename_i d hd
      have hmem : d ∈ o.looksAt ops := by
        unfold Oper.looksAt
        rw [hg]
        simp [hd]
      have ht : ∀ v, a.look d = some v → ∃ v', a'.tmps[d]? = some v' ∧ VRel K v v' := fun v hv => by
        have h1 := ht d hmem v hv
        have h2 := look_lt hv
        rw [← hsz] at h2
        exact ⟨a'.tmps[d], by simp [h2], by simpa [h2] using h1⟩
      split at h
      · rename_i x hx
        simp only [Option.some.injEq] at h; subst h
        obtain ⟨v', hv', hr⟩ := ht _ hx
        cases hr
        simp [yielded, hd, hv']
      · rename_i v hnb hx
        simp only [Option.some.injEq] at h; subst h
        obtain ⟨v', hv', hr⟩ := ht _ hx
        have : yielded ops a'.tmps j = none := by
          unfold yielded
          rw [hd]
          simp only [Option.bind_some, hv']
          cases hr <;> first | rfl | exact absurd rfl (hnb _)
        simp [this]
      · simp at h
    · rename_i hd
      simp only [Option.some.injEq] at h; subst h
      simp [yielded, hd]

theorem Inv.wanted (hC : Ctx P G call ops a0 H0 aF idF M CF cores rs K0 w0) (hI : Inv P G ops a0 H0 idF M cores rs K0 w0 D m K w a' h) {i : Nat} {x : Nat × Oper × Rec} (hx : rs[i]? = some x) (hnD : ¬ D i)
    (hdeps : ∀ j, depB x.2.1 j = true → D j) {b : Bool} (hw : wantedA ops x.2.2.a x.2.1 = some b) : Region.wanted x.2.1 (yielded ops a'.tmps) = b :=
  wanted_sound2 (by rw [hI.size, (hC.hP.looks i x hx).1]) (fun d hd v hv => hI.sees hC hx hnD hdeps (by unfold namesOf; exact List.mem_append_right _ hd) hv) hw

/-- one operation more is done. -/
theorem Inv.add (hC : Ctx P G call ops a0 H0 aF idF M CF cores rs K0 w0) (hI : Inv P G ops a0 H0 idF M cores rs K0 w0 D m K w a' h) {i : Nat} {x : Nat × Oper × Rec} (hx : rs[i]? = some x) (hnD : ¬ D i)
    (hdeps : ∀ j, depB x.2.1 j = true → D j) {m1 : Nat} {K1 : Kr} {w1 : World} {h1 : Nat → Blk} {v' : Value} (hrel : Rel G K1 h1 w1) (hext : Ext K h w K1 h1 w1)
    (hdom : ∀ b, K1.dom b → K.dom b ∨ (x.2.2.id ≤ b ∧ b < x.2.2.id2)) (hcore : ∃ C, cores[m1]? = some C ∧ IsView rs (fun k => D k ∨ k = i) m1 C.get h1)
    (hmm : (x.2.2.kind = 2 ∧ m1 = m + 1 ∧ x.2.2.m = m) ∨ (x.2.2.kind ≠ 2 ∧ m1 = m)) (hm1 : m1 ≤ M) (hv : VRel K1 x.2.2.v v') :
    Inv P G ops a0 H0 idF M cores rs K0 w0 (fun k => D k ∨ k = i) m1 K1 w1 (a'.put x.2.1.dst v') h1 := by
  have hox := (hC.hP.idx i x hx).2
  have hidx := hC.hP.ids i x hx
  refine ⟨fun k o j hk ho hd => ?_, fun k y hy hk2 => ?_, hm1, hcore, hrel, hI.ext.trans hext, fun b hb => ?_, fun k y hy hk b hb1 hb2 hb3 => ?_, ?_, fun j y t hy hDj hd hmax => ?_, fun t v hno h0 => ?_, ?_⟩
  · rcases hk with hk | hk
    · exact .inl (hI.closed k o j hk ho hd)
    · subst hk
      rw [hox] at ho; cases ho
      exact .inl (hdeps j hd)
  · by_cases hki : k = i
    · subst hki
      rw [hx] at hy; cases hy
      rcases hmm with ⟨_, e2, e3⟩ | ⟨e1, _⟩
      · exact ⟨fun _ => by omega, fun _ => .inr rfl⟩
      · exact absurd hk2 e1
    · have hiff := hI.effs k y hy hk2
      rcases hmm with ⟨e1, e2, e3⟩ | ⟨e1, e2⟩
      · have hne : y.2.2.m ≠ m := by
          rcases Nat.lt_or_ge k i with hlt | hge
          · have := (hC.hP.mm k i y x hlt hy hx).2 hk2; omega
          · have := (hC.hP.mm i k x y (by omega) hx hy).2 e1; omega
        constructor
        · rintro (hk | hk)
          · have := hiff.1 hk; omega
          · exact absurd hk hki
        · intro hlt; exact .inl (hiff.2 (by omega))
      · rw [e2]
        constructor
        · rintro (hk | hk)
          · exact hiff.1 hk
          · exact absurd hk hki
        · intro hlt; exact .inl (hiff.2 hlt)
  · rcases hdom b hb with hb | hb
    · exact hI.dom b hb
    · exact .inr ⟨by omega, by omega⟩
  · have hkD : ¬ D k := fun e => hk (.inl e)
    have hki : k ≠ i := fun e => hk (.inr e)
    rcases hdom b hb3 with hb | hb
    · exact hI.fresh k y hy hkD b hb1 hb2 hb
    · rcases Nat.lt_or_ge k i with hlt | hge
      · have := hC.hP.idm k i y x hlt hy hx; omega
      · have := hC.hP.idm i k x y (by omega) hx hy; omega
  · cases x.2.1.dst <;> simp [Act.put, hI.size]
  · by_cases hji : j = i
    · subst hji
      rw [hx] at hy; cases hy
      have hlt := hC.hP.dsts j x hx t hd
      rw [hd]
      simpa [Act.put, hI.size, hlt] using hv
    · have hDj' : D j := hDj.resolve_right hji
      have hoy := (hC.hP.idx j y hy).2
      have hnd : x.2.1.dst ≠ some t := fun e => by
        have hle := hmax i x hx (.inr rfl) e
        rcases static_names hC.hs hox hoy (fun e => hji e.symm) hd (by unfold namesOf; rw [e]; simp) with hh | hh
        · have := static_back hC.hs hox hh; omega
        · exact hnD (hI.closed j _ i hDj' hoy hh)
      have hb := (hI.t1 j y t hy hDj' hd fun j' y' hy' hD' hd' => hmax j' y' hy' (.inl hD') hd').mono hext.le
      cases hdx : x.2.1.dst with
      | none => exact hb
      | some d =>
        have : d ≠ t := fun e => hnd (by rw [hdx, e])
        simpa [Act.put, Array.getElem?_setIfInBounds_ne this] using hb
  · have hnd : x.2.1.dst ≠ some t := hno i x hx (.inr rfl)
    have hb := (hI.t2 t v (fun j y hy hD => hno j y hy (.inl hD)) h0).mono hext.le
    cases hdx : x.2.1.dst with
    | none => exact hb
    | some d =>
      have : d ≠ t := fun e => hnd (by rw [hdx, e])
      simpa [Act.put, Array.getElem?_setIfInBounds_ne this] using hb
  · cases x.2.1.dst <;> exact hI.defers

theorem IsView.same {i : Nat} {x : Nat × Oper × Rec} {h0 : Nat → Blk} (hx : rs[i]? = some x) (hb : x.2.2.blk = none) (hv : IsView rs D m h0 h) : IsView rs (fun k => D k ∨ k = i) m h0 h := by
  have hsel : ∀ id k, Sel rs (fun k => D k ∨ k = i) m id k → Sel rs D m id k := fun id k ⟨j, y, hy, hD, hk, hid, hab⟩ => by
    rcases hD with hD | hD
    · exact ⟨j, y, hy, hD, hk, hid, hab⟩
    · subst hD
      rw [hx] at hy; cases hy
      rw [hb] at hk; cases hk
  exact ⟨fun id k hs => hv.new id k (hsel id k hs), fun b hno => hv.old b fun k hs => hno k (by
    obtain ⟨j, y, hy, hD, hk, hid, hab⟩ := hs
    exact ⟨j, y, hy, .inl hD, hk, hid, hab⟩)⟩

/-- a value alone. -/
theorem Inv.addPure (hC : Ctx P G call ops a0 H0 aF idF M CF cores rs K0 w0) (hI : Inv P G ops a0 H0 idF M cores rs K0 w0 D m K w a' h) {i : Nat} {x : Nat × Oper × Rec} (hx : rs[i]? = some x) (hnD : ¬ D i)
    (hdeps : ∀ j, depB x.2.1 j = true → D j) (hk : x.2.2.kind ≠ 2) (hb : x.2.2.blk = none) {v' : Value} (hv : VRel K x.2.2.v v') :
    Inv P G ops a0 H0 idF M cores rs K0 w0 (fun k => D k ∨ k = i) m K w (a'.put x.2.1.dst v') h := by
  obtain ⟨C, hc, hview⟩ := hI.core
  exact hI.add hC hx hnD hdeps hI.rel (Ext.refl _ _ _) (fun b hb => .inl hb) ⟨C, hc, hview.same hx hb⟩ (.inr ⟨hk, rfl⟩) hI.mle hv
end
end Go.Eng
