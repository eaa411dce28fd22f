/- PART OF A PROOF over the given program: EngL. See the last text of the claim for the statement. -/
import Derived.Test.YtmbgnmnaonjdgaaGreatDoorEngK
namespace Go.Eng
open Go

section
variable {P : Program} {G : List Nat} {call : CallF} {ops : Array Oper}

theorem isRWB_iff {k : Blk} : isRWB k = true ↔ isRW k := by
  cases k with
  | dead => simp [isRWB, isRW]
  | map => simp [isRWB, isRW]
  | cells c e es rw => cases rw <;> simp [isRWB, isRW]

def LookAt (a0 : AAct) (rs : Recs) (i : Nat) (a : AAct) : Prop :=
  a.n = a0.n ∧ a.defers = a0.defers ∧ ∀ t v, a.look t = some v →
    (∃ j x, j < i ∧ rs[j]? = some x ∧ x.2.1.dst = some t ∧ x.2.2.v = v ∧ ∀ j' x', j < j' → j' < i → rs[j']? = some x' → x'.2.1.dst ≠ some t) ∨
    ((∀ j x, j < i → rs[j]? = some x → x.2.1.dst ≠ some t) ∧ a0.look t = some v)

def OpFact (P : Program) (G : List Nat) (call : CallF) (ops : Array Oper) (cores : List AH) (rs : Recs) (k : Nat) (o : Oper) (r : Rec) : Prop :=
  (r.kind = 0 ∧ wantedA ops r.a o = some false ∧ r.v = undef ∧ r.blk = none ∧ r.id2 = r.id) ∨
  (r.kind = 1 ∧ wantedA ops r.a o = some true ∧ isEff o = false ∧ (∃ Hv, evalFloat P o (restr ops o (AAct.eval G r.a)) Hv r.id = some (r.v, r.blk)) ∧ r.id2 = r.id + (if r.blk.isSome then 1 else 0) ∧ (∀ k, r.blk = some k → isRW k)) ∨
  (r.kind = 2 ∧ wantedA ops r.a o = some true ∧ isEff o = true ∧ r.blk = none ∧ ∃ C Hv H', cores[r.m]? = some C ∧ view (rs.take k) (depB o) r.m (rs.take k) C = some Hv ∧
    evalEff P call o (restr ops o (AAct.eval G r.a)) { Hv with next := r.id } = some (r.v, H') ∧ cores[r.m + 1]? = some H' ∧ r.id2 = H'.next)

structure PInv (P : Program) (G : List Nat) (call : CallF) (ops : Array Oper) (a0 : AAct) (H0 : AH) (i : Nat) (a : AAct) (id m : Nat) (C : AH) (cores : List AH) (rs : Recs) : Prop where
  len : rs.length = i
  idx : ∀ (k : Nat) x, rs[k]? = some x → x.1 = k ∧ ops[k]? = some x.2.1
  look : LookAt a0 rs i a
  looks : ∀ (k : Nat) x, rs[k]? = some x → LookAt a0 rs k x.2.2.a
  id0 : H0.next ≤ id
  ids : ∀ (k : Nat) x, rs[k]? = some x → H0.next ≤ x.2.2.id ∧ x.2.2.id ≤ x.2.2.id2 ∧ x.2.2.id2 ≤ id
  idm : ∀ (k k' : Nat) x x', k < k' → rs[k]? = some x → rs[k']? = some x' → x.2.2.id2 ≤ x'.2.2.id
  ms : ∀ (k : Nat) x, rs[k]? = some x → x.2.2.m ≤ m ∧ (x.2.2.kind = 2 → x.2.2.m < m)
  mm : ∀ (k k' : Nat) x x', k < k' → rs[k]? = some x → rs[k']? = some x' → x.2.2.m ≤ x'.2.2.m ∧ (x.2.2.kind = 2 → x.2.2.m < x'.2.2.m)
  msur : ∀ q, q < m → ∃ (k : Nat) (x : _), rs[k]? = some x ∧ x.2.2.kind = 2 ∧ x.2.2.m = q
  dsts : ∀ (k : Nat) x, rs[k]? = some x → ∀ d, x.2.1.dst = some d → d < a0.n
  clen : cores.length = m + 1
  c0 : cores[0]? = some H0
  cm : cores[m]? = some C
  op : ∀ (k : Nat) x, rs[k]? = some x → OpFact P G call ops cores rs k x.2.1 x.2.2

theorem get_snoc {α : Type} {l : List α} {x y : α} {k : Nat} (h : (l ++ [y])[k]? = some x) : l[k]? = some x ∨ (k = l.length ∧ x = y) := by
  rcases Nat.lt_or_ge k l.length with hk | hk
  · rw [List.getElem?_append_left hk] at h; exact .inl h
  · rw [List.getElem?_append_right hk] at h
    have : k - l.length = 0 := by
      rcases Nat.eq_zero_or_pos (k - l.length) with h0 | h0
      · exact h0
      · rw [List.getElem?_eq_none (by simp; omega)] at h; simp at h
    rw [this] at h
    simp at h
    exact .inr ⟨by omega, h.symm⟩
theorem get_lt {α : Type} {l : List α} {x : α} {k : Nat} (h : l[k]? = some x) : k < l.length := by
  rcases Nat.lt_or_ge k l.length with hk | hk
  · exact hk
  · rw [List.getElem?_eq_none hk] at h; simp at h
theorem get_snoc_left {α : Type} {l : List α} {x y : α} {k : Nat} (h : l[k]? = some x) : (l ++ [y])[k]? = some x := by
  rw [List.getElem?_append_left (get_lt h)]; exact h

theorem LookAt.ext {a0 a : AAct} {rs : Recs} {y : Nat × Oper × Rec} {i : Nat} (h : LookAt a0 rs i a) (hi : i ≤ rs.length) : LookAt a0 (rs ++ [y]) i a := by
  obtain ⟨h1, h2, h3⟩ := h
  refine ⟨h1, h2, fun t v hv => ?_⟩
  have back : ∀ (j : Nat) x, j < i → (rs ++ [y])[j]? = some x → rs[j]? = some x := fun j x hj hx => by
    rcases get_snoc hx with h | ⟨h, _⟩
    · exact h
    · omega
  rcases h3 t v hv with ⟨j, x, hj, hx, hd, hvv, hlast⟩ | ⟨hno, h0⟩
  · exact .inl ⟨j, x, hj, get_snoc_left hx, hd, hvv, fun j' x' h1 h2 h3 => hlast j' x' h1 h2 (back j' x' h2 h3)⟩
  · exact .inr ⟨fun j x hj hx => hno j x hj (back j x hj hx), h0⟩

theorem LookAt.put {a0 a a1 : AAct} {rs : Recs} {i : Nat} {o : Oper} {r : Rec} (h : LookAt a0 rs i a) (hl : rs.length = i) (hp : a.put o.dst r.v = some a1) : LookAt a0 (rs ++ [(i, o, r)]) (i + 1) a1 := by
  obtain ⟨p1, p2, p3, p4⟩ := AAct.put_spec hp
  have h' := h.ext (y := (i, o, r)) (by omega)
  obtain ⟨h1, h2, h3⟩ := h'
  refine ⟨p1.trans h1, p2.trans h2, fun t v hv => ?_⟩
  rw [p4] at hv
  have hnew : (rs ++ [(i, o, r)])[i]? = some (i, o, r) := by rw [← hl]; simp
  by_cases hd : o.dst = some t
  · rw [if_pos hd] at hv
    simp only [Option.some.injEq] at hv
    exact .inl ⟨i, (i, o, r), by omega, hnew, hd, hv, fun j' x' h1 h2 => by omega⟩
  · rw [if_neg hd] at hv
    rcases h3 t v hv with ⟨j, x, hj, hx, hdx, hvv, hlast⟩ | ⟨hno, h0⟩
    · refine .inl ⟨j, x, by omega, hx, hdx, hvv, fun j' x' h1 h2 h3 => ?_⟩
      by_cases hji : j' = i
      · subst hji
        rw [hnew] at h3; cases h3
        exact hd
      · exact hlast j' x' h1 (by omega) h3
    · refine .inr ⟨fun j x hj hx => ?_, h0⟩
      by_cases hji : j = i
      · subst hji
        rw [hnew] at hx; cases hx
        exact hd
      · exact hno j x (by omega) hx

theorem OpFact.ext {cores : List AH} {rs : Recs} {k : Nat} {o : Oper} {r : Rec} {y : Nat × Oper × Rec} (h : OpFact P G call ops cores rs k o r) (hk : k ≤ rs.length) (more : List AH) : OpFact P G call ops (cores ++ more) (rs ++ [y]) k o r := by
  rcases h with h | h | ⟨h1, h2, h3, h4, C, Hv, H', h5, h6, h7, h8, h9⟩
  · exact .inl h
  · exact .inr (.inl h)
  · refine .inr (.inr ⟨h1, h2, h3, h4, C, Hv, H', ?_, ?_, h7, ?_, h9⟩)
    · rw [List.getElem?_append_left (get_lt h5)]; exact h5
    · rw [List.take_append_of_le_length hk]; exact h6
    · rw [List.getElem?_append_left (get_lt h8)]; exact h8

/-- one operation more. -/
theorem PInv.snoc {a0 a a1 : AAct} {H0 C C' : AH} {i id id' m m' : Nat} {cores more : List AH} {rs : Recs} {o : Oper} {r : Rec} (h : PInv P G call ops a0 H0 i a id m C cores rs)
    (ho : ops[i]? = some o) (ha : r.a = a) (hid : r.id = id) (hid2 : r.id2 = id') (hle : id ≤ id') (hm : r.m = m) (hp : a.put o.dst r.v = some a1)
    (hmm : (m' = m ∧ r.kind ≠ 2) ∨ (m' = m + 1 ∧ r.kind = 2)) (hcl : (cores ++ more).length = m' + 1) (hcm : (cores ++ more)[m']? = some C') (hop : OpFact P G call ops (cores ++ more) (rs ++ [(i, o, r)]) i o r) :
    PInv P G call ops a0 H0 (i + 1) a1 id' m' C' (cores ++ more) (rs ++ [(i, o, r)]) := by
  have hlen := h.len
  have hmle : m ≤ m' := by omega
  refine ⟨by simp [hlen], fun k x hx => ?_, h.look.put hlen hp, fun k x hx => ?_, by have := h.id0; omega, fun k x hx => ?_, fun k k' x x' hk hx hx' => ?_, fun k x hx => ?_, fun k k' x x' hk hx hx' => ?_, fun q hq => ?_, fun k x hx => ?_, hcl, ?_, hcm, fun k x hx => ?_⟩
  · rcases get_snoc hx with hx | ⟨hk, rfl⟩
    · exact h.idx k x hx
    · exact ⟨by omega, by rw [hk, hlen]; exact ho⟩
  · rcases get_snoc hx with hx | ⟨hk, rfl⟩
    · exact (h.looks k x hx).ext (Nat.le_of_lt (get_lt hx))
    · simp only [ha]
      rw [hk, hlen]
      exact h.look.ext (by omega)
  · rcases get_snoc hx with hx | ⟨hk, rfl⟩
    · have := h.ids k x hx; omega
    · have := h.id0; simp only; omega
  · rcases get_snoc hx' with hx' | ⟨hk', rfl⟩
    · rcases get_snoc hx with hx | ⟨hk0, _⟩
      · exact h.idm k k' x x' hk hx hx'
      · have := get_lt hx'; omega
    · rcases get_snoc hx with hx | ⟨hk0, _⟩
      · have := h.ids k x hx; simp only; omega
      · omega
  · rcases get_snoc hx with hx | ⟨hk, rfl⟩
    · have := h.ms k x hx; exact ⟨by omega, fun e => by have := this.2 e; omega⟩
    · simp only; exact ⟨by omega, fun e => by rcases hmm with ⟨_, h2⟩ | ⟨h1, _⟩; exact absurd e h2; omega⟩
  · rcases get_snoc hx' with hx' | ⟨hk', rfl⟩
    · rcases get_snoc hx with hx | ⟨hk0, _⟩
      · exact h.mm k k' x x' hk hx hx'
      · have := get_lt hx'; omega
    · rcases get_snoc hx with hx | ⟨hk0, _⟩
      · have := h.ms k x hx; simp only; exact ⟨by omega, fun e => by have := this.2 e; omega⟩
      · omega
  · by_cases hqm : q < m
    · obtain ⟨k, x, h1, h2, h3⟩ := h.msur q hqm
      exact ⟨k, x, get_snoc_left h1, h2, h3⟩
    · rcases hmm with ⟨h1, _⟩ | ⟨h1, h2⟩
      · omega
      · exact ⟨i, (i, o, r), by rw [← hlen]; simp, h2, by simp only; omega⟩
  · rcases get_snoc hx with hx | ⟨hk, rfl⟩
    · exact h.dsts k x hx
    · intro d hd
      have := (AAct.put_spec hp).2.2.1 d hd
      rw [h.look.1] at this
      exact this
  · rw [List.getElem?_append_left (by have := h.clen; omega)]; exact h.c0
  · rcases get_snoc hx with hx | ⟨hk, rfl⟩
    · exact (h.op k x hx).ext (Nat.le_of_lt (get_lt hx)) more
    · rw [hk, hlen]; exact hop

theorem pass_spec : ∀ (rest : List Oper) (i : Nat) (a : AAct) (id m : Nat) (C : AH) (cores : List AH) (rs : Recs) (a0 : AAct) (H0 : AH) (aF : AAct) (idF : Nat) (CF : AH) (coresF : List AH) (rsF : Recs),
    (∀ (k : Nat) o, rest[k]? = some o → ops[i + k]? = some o) → (CallOK P G call) → PInv P G call ops a0 H0 i a id m C cores rs →
    pass P G call ops rest i a id m C cores rs = some (aF, idF, CF, coresF, rsF) → ∃ mF, PInv P G call ops a0 H0 (i + rest.length) aF idF mF CF coresF rsF := by
  intro rest
  induction rest with
  | nil =>
    intro i a id m C cores rs a0 H0 aF idF CF coresF rsF _ _ hI h
    simp only [pass, Option.some.injEq, Prod.mk.injEq] at h
    obtain ⟨rfl, rfl, rfl, rfl, rfl⟩ := h
    exact ⟨m, hI⟩
  | cons o rest ih =>
    intro i a id m C cores rs a0 H0 aF idF CF coresF rsF hops hcall hI h
    have ho : ops[i]? = some o := hops 0 o rfl
    have hops' : ∀ (k : Nat) o', rest[k]? = some o' → ops[i + 1 + k]? = some o' := fun k o' hk => by
      have := hops (k + 1) o' (by simpa using hk)
      rwa [show i + (k + 1) = i + 1 + k by omega] at this
    have hlen : i + (o :: rest).length = i + 1 + rest.length := by simp; omega
    rw [hlen]
    have htake : ∀ y : Nat × Oper × Rec, (rs ++ [y]).take i = rs := fun y => by rw [List.take_append_of_le_length (by rw [hI.len]; exact Nat.le_refl _), List.take_of_length_le (by rw [hI.len]; exact Nat.le_refl _)]
    simp only [pass] at h
    split at h
    · simp at h
    · rename_i hw
      split at h
      · rename_i a' hp
        refine ih _ _ _ _ _ _ _ a0 H0 _ _ _ _ _ hops' hcall ?_ h
        have := hI.snoc (r := ⟨a, undef, 0, none, id, id, m⟩) (more := []) ho rfl rfl rfl (Nat.le_refl _) rfl hp (.inl ⟨rfl, by simp⟩) (by simpa using hI.clen) (by simpa using hI.cm) (.inl ⟨rfl, hw, rfl, rfl, rfl⟩)
        simpa using this
      · simp at h
    · rename_i hw
      split at h
      · simp at h
      · rename_i Hv hview
        cases he : isEff o with
        | true =>
          rw [he] at h; simp only [cond_true] at h
          split at h
          · rename_i v H' hev
            rw [forceV_eq, forceN_eq] at h
            split at h
            · rename_i a' hp
              refine ih _ _ _ _ _ _ _ a0 H0 _ _ _ _ _ hops' hcall ?_ h
              have hle : id ≤ H'.next := (eff_sound hcall he hev).1
              have hc : (cores ++ [H'])[m + 1]? = some H' := by rw [← hI.clen]; simp
              refine hI.snoc (r := ⟨a, v, 2, none, id, H'.next, m⟩) (more := [H']) ho rfl rfl rfl hle rfl hp (.inr ⟨rfl, rfl⟩) (by simp [hI.clen]) hc ?_
              refine .inr (.inr ⟨rfl, hw, he, rfl, C, Hv, H', ?_, ?_, hev, hc, rfl⟩)
              · rw [List.getElem?_append_left (by have := hI.clen; simp only; omega)]; exact hI.cm
              · rw [htake]; exact hview
            · simp at h
          · simp at h
        | false =>
          rw [he] at h; simp only [cond_false] at h
          split at h
          · rename_i v hev
            rw [forceV_eq] at h
            split at h
            · rename_i a' hp
              refine ih _ _ _ _ _ _ _ a0 H0 _ _ _ _ _ hops' hcall ?_ h
              have := hI.snoc (r := ⟨a, v, 1, none, id, id, m⟩) (more := []) ho rfl rfl rfl (Nat.le_refl _) rfl hp (.inl ⟨rfl, by simp⟩) (by simpa using hI.clen) (by simpa using hI.cm) (.inr (.inl ⟨rfl, hw, he, ⟨Hv, hev⟩, by simp, fun k hk => by simp at hk⟩))
              simpa using this
            · simp at h
          · rename_i v k hev
            rw [forceV_eq] at h
            split at h
            · rename_i a' hp
              have hrwk : isRWB k = true := by
                cases hq : isRWB k with
                | true => rfl
                | false => rw [hq] at h; simp at h
              rw [hrwk] at h; simp only [cond_true] at h
              rw [forceBlk_eq] at h
              refine ih _ _ _ _ _ _ _ a0 H0 _ _ _ _ _ hops' hcall ?_ h
              have := hI.snoc (r := ⟨a, v, 1, some k, id, id + 1, m⟩) (more := []) ho rfl rfl rfl (Nat.le_succ id) rfl hp (.inl ⟨rfl, by simp⟩) (by simpa using hI.clen) (by simpa using hI.cm) (.inr (.inl ⟨rfl, hw, he, ⟨Hv, hev⟩, by simp, fun k' hk' => by simp only [Option.some.injEq] at hk'; subst hk'; exact isRWB_iff.1 hrwk⟩))
              simpa using this
            · simp at h
          · simp at h
end
end Go.Eng
