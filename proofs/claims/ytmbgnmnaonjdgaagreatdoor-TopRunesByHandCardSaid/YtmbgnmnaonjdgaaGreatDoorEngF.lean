/- PART OF A PROOF over the given program: EngF. See the last text of the claim for the statement. -/
import Derived.Test.YtmbgnmnaonjdgaaGreatDoorEngE
namespace Go.Eng
open Go

section
variable {P : Program} {G : List Nat} {K : Kr} {w : World} {H : AH} {ρ : Operand → Option Value} {ρ' : Operand → Value}
variable {dst : Option Tmp} {type : TypeId} {pos : String} {after : Array Edge} {guard : Option (Nat × Bool)} {id : Nat} {v : Value} {blk : Option Blk}

theorem asNat_spec {K : Kr} {v v' : Value} {n : Nat} (h : asNat v = some n) (hv : VRel K v v') : ∃ k, v' = .int k (n : Int) := by
  unfold asNat at h
  split at h
  · rename_i k m
    cases hv
    simp only [Option.some.injEq] at h; subst h
    exact ⟨k, rfl⟩
  · simp at h

def BIs (o : Option Value) : Option Nat → Prop
  | none => o = none
  | some n => ∃ k, o = some (.int k (n : Int))

theorem optNat_spec (hρ : RhoRel K ρ ρ') {o : Option Operand} {r : Option Nat} (h : optNat ρ o = some r) : BIs (o.map ρ') r := by
  cases o with
  | none => simp only [optNat, Option.some.injEq] at h; subst h; rfl
  | some x =>
    simp only [optNat] at h
    split at h
    · rename_i u hu
      simp only [Option.map_eq_some_iff] at h
      obtain ⟨n, hn, rfl⟩ := h
      obtain ⟨k, hk⟩ := asNat_spec hn (hρ _ _ hu)
      exact ⟨k, by simp [hk]⟩
    · simp at h

theorem run_bound {k : IntKind} {n y : Nat} {code : BoundsCode} (h : n ≤ y) (w : World) : (Instr.sliceBound (.int k (n : Int)) y code).run P w = .ok n w := by
  have : (0 : Int) ≤ n ∧ (n : Int) ≤ y := by omega
  simp [Instr.sliceBound, asIntOf, h]

/-- the bounds of a slice expression without a third index. -/
theorem run_bounds2 {isSlice : Bool} {len cap : Nat} {lo hi : Option Value} {lo' hi' : Option Nat}
    (hlo : BIs lo lo') (hhi : BIs hi hi') (h1 : hi'.getD len ≤ cap ∨ hi' = none) (h2 : lo'.getD 0 ≤ hi'.getD len) (w : World) :
    (Instr.sliceBounds isSlice len cap lo hi none).run P w = .ok (lo'.getD 0, hi'.getD len, cap) w := by
  cases hi' with
  | none =>
    simp only [BIs] at hhi; subst hhi
    cases lo' with
    | none => simp only [BIs] at hlo; subst hlo; simp [Instr.sliceBounds]
    | some n =>
      obtain ⟨k, rfl⟩ := hlo
      simp only [Option.getD_some, Option.getD_none] at h2
      simp [Instr.sliceBounds, run_bound h2]
  | some m =>
    obtain ⟨k', rfl⟩ := hhi
    have hm : m ≤ cap := by rcases h1 with h | h; exact h; simp at h
    cases lo' with
    | none => simp only [BIs] at hlo; subst hlo; simp [Instr.sliceBounds, run_bound hm]
    | some n =>
      obtain ⟨k, rfl⟩ := hlo
      simp only [Option.getD_some] at h2
      simp [Instr.sliceBounds, run_bound hm, run_bound h2]

theorem run_bounds3 {isSlice : Bool} {len cap h m : Nat} {lo hi : Option Value} {lo' : Option Nat} {kh km : IntKind}
    (hlo : BIs lo lo') (hhi : hi = some (.int kh (h : Int)))
    (h1 : m ≤ cap) (h2 : h ≤ m) (h3 : lo'.getD 0 ≤ h) (w : World) :
    (Instr.sliceBounds isSlice len cap lo hi (some (.int km (m : Int)))).run P w = .ok (lo'.getD 0, h, m) w := by
  subst hhi
  cases lo' with
  | none => simp only [BIs] at hlo; subst hlo; simp [Instr.sliceBounds, run_bound h1, run_bound h2]
  | some n =>
    obtain ⟨k, rfl⟩ := hlo
    simp only [Option.getD_some] at h3
    simp [Instr.sliceBounds, run_bound h1, run_bound h2, run_bound h3]

theorem fl_fieldAddr (hρ : RhoRel K ρ ρ') {t : TypeId} {x : Operand} {f : Nat} (h : evalFloat P ⟨dst, .fieldAddr t x f, type, pos, after, guard⟩ ρ H id = some (v, blk)) :
    FRes P ρ' ⟨dst, .fieldAddr t x f, type, pos, after, guard⟩ K w id v blk := by
  simp only [evalFloat] at h
  split at h
  · rename_i fields b o hd hx
    split at h
    · rename_i fd hf
      split at h
      · rename_i n hn
        cases h
        have hx' := hρ _ _ hx
        generalize hq : ρ' x = q at hx'; cases hx' with
        | ptr b o hdm =>
        refine .val ?_ (.ptr b _ hdm)
        simp [execOp, Instr.fieldAt, hq, run_und hd, hf, Instr.sureAddr, fieldPlace, run_sizeOf hn, addr_add]
      · simp at h
    · simp at h
  · simp at h

theorem fl_field (hρ : RhoRel K ρ ρ') {t : TypeId} {x : Operand} {f : Nat} (h : evalFloat P ⟨dst, .field t x f, type, pos, after, guard⟩ ρ H id = some (v, blk)) :
    FRes P ρ' ⟨dst, .field t x f, type, pos, after, guard⟩ K w id v blk := by
  simp only [evalFloat] at h
  split at h
  · rename_i fields cs hd hx
    split at h
    · rename_i fd hf
      split at h
      · rename_i d n hd2 hn
        have hx' := hρ _ _ hx
        generalize hq : ρ' x = q at hx'; cases hx' with
        | agg cs cs' h1 h2 =>
        have key : ∀ r, (bif isAggT d then some (.agg (cs.extract fd.offset (fd.offset + n))) else cs[fd.offset]?) = some r → FRes P ρ' ⟨dst, .field t x f, type, pos, after, guard⟩ K w id r none := by
          intro r hr
          obtain ⟨r', hrun, hrel⟩ := part_sound (w := w) hd2 hn ⟨h1, h2⟩ hr
          exact .val (by simp [execOp, Instr.field, hq, run_und hd, hf, asAgg, hrun]) hrel
        cases hag : isAggT d with
        | true =>
          rw [hag] at h; simp only [cond_true] at h; cases h
          exact key _ (by rw [hag]; rfl)
        | false =>
          rw [hag] at h; simp only [cond_false] at h
          split at h
          · rename_i u hu
            cases h
            exact key _ (by rw [hag]; exact hu)
          · simp at h
      · simp at h
    · simp at h
  · simp at h

theorem fl_indexAddr (hρ : RhoRel K ρ ρ') {t : TypeId} {x i : Operand} (h : evalFloat P ⟨dst, .indexAddr t x i, type, pos, after, guard⟩ ρ H id = some (v, blk)) :
    FRes P ρ' ⟨dst, .indexAddr t x i, type, pos, after, guard⟩ K w id v blk := by
  simp only [evalFloat] at h
  split at h
  · rename_i elem b o len c k0 k hd hx hi
    split at h
    · rename_i n hn
      cases hb : Nat.blt k len with
      | false => rw [hb] at h; simp at h
      | true =>
        rw [hb] at h; simp only [cond_true] at h; cases h
        have hlt : k < len := Nat.le_of_ble_eq_true hb
        have hx' := hρ _ _ hx; have hi' := hρ _ _ hi
        generalize hq : ρ' x = q at hx'; generalize hqi : ρ' i = qi at hi'; cases hi'; cases hx' with
        | slice b o n c c' hdm hc =>
        refine .val ?_ (.ptr b _ hdm)
        have : (0 : Int) ≤ Int.ofNat k ∧ Int.ofNat k < (len : Int) := ⟨Int.natCast_nonneg k, Int.ofNat_lt.2 hlt⟩
        simp [execOp, Instr.indexAt, hq, hqi, asIntOf, run_und hd, hlt, run_sizeOf hn, addr_add]
    · simp at h
  · rename_i len elem b o k0 k hd hx hi
    split at h
    · rename_i n hn
      cases hb : Nat.blt k len with
      | false => rw [hb] at h; simp at h
      | true =>
        rw [hb] at h; simp only [cond_true] at h; cases h
        have hlt : k < len := Nat.le_of_ble_eq_true hb
        have hx' := hρ _ _ hx; have hi' := hρ _ _ hi
        generalize hq : ρ' x = q at hx'; generalize hqi : ρ' i = qi at hi'; cases hi'; cases hx' with
        | ptr b o hdm =>
        refine .val ?_ (.ptr b _ hdm)
        simp [execOp, Instr.indexAt, hq, hqi, asIntOf, run_und hd, Instr.sureAddr, hlt, run_sizeOf hn, addr_add]
    · simp at h
  · simp at h

theorem fl_index (hρ : RhoRel K ρ ρ') {t : TypeId} {x i : Operand} (h : evalFloat P ⟨dst, .index t x i, type, pos, after, guard⟩ ρ H id = some (v, blk)) :
    FRes P ρ' ⟨dst, .index t x i, type, pos, after, guard⟩ K w id v blk := by
  simp only [evalFloat] at h
  split at h
  · rename_i s k0 k hd hx hi
    split at h
    · rename_i u hu
      cases h
      have hx' := hρ _ _ hx; have hi' := hρ _ _ hi
      generalize hq : ρ' x = q at hx'; generalize hqi : ρ' i = qi at hi'; cases hi'; cases hx'
      refine .val ?_ (.int _ _)
      have hg : s[k]? = some u := by
        have hlt : k < s.data.size := by
          rcases Nat.lt_or_ge k s.data.size with h' | h'
          · exact h'
          · rw [List.getElem?_eq_none (by simpa using h')] at hu; simp at hu
        have hlt' : k < s.size := hlt
        rw [Go.ByteArray.getElem?_lt' s k hlt']
        rw [← hu, Array.getElem?_toList, Array.getElem?_eq_getElem hlt]
        rfl
      simp [execOp, Instr.index, hq, hqi, asIntOf, run_und hd, hg]
    · simp at h
  · rename_i len elem cs k0 k hd hx hi
    split at h
    · rename_i d n hd2 hn
      cases hb : Nat.blt k len with
      | false => rw [hb] at h; simp at h
      | true =>
        rw [hb] at h; simp only [cond_true] at h
        have hlt : k < len := Nat.le_of_ble_eq_true hb
        have hx' := hρ _ _ hx; have hi' := hρ _ _ hi
        generalize hq : ρ' x = q at hx'; generalize hqi : ρ' i = qi at hi'; cases hi'; cases hx' with
        | agg cs cs' h1 h2 =>
        have key : ∀ r, (bif isAggT d then some (.agg (cs.extract (k * n) (k * n + n))) else cs[k * n]?) = some r → FRes P ρ' ⟨dst, .index t x i, type, pos, after, guard⟩ K w id r none := by
          intro r hr
          obtain ⟨r', hrun, hrel⟩ := part_sound (w := w) hd2 hn ⟨h1, h2⟩ hr
          exact .val (by simp [execOp, Instr.index, hq, hqi, asIntOf, run_und hd, hlt, run_sizeOf hn, hrun]) hrel
        cases hag : isAggT d with
        | true =>
          rw [hag] at h; simp only [cond_true] at h; cases h
          exact key _ (by rw [hag]; rfl)
        | false =>
          rw [hag] at h; simp only [cond_false] at h
          split at h
          · rename_i u hu
            cases h
            exact key _ (by rw [hag]; exact hu)
          · simp at h
    · simp at h
  · simp at h

theorem fl_extract (hρ : RhoRel K ρ ρ') {x : Operand} {i : Nat} (h : evalFloat P ⟨dst, .extract x i, type, pos, after, guard⟩ ρ H id = some (v, blk)) :
    FRes P ρ' ⟨dst, .extract x i, type, pos, after, guard⟩ K w id v blk := by
  simp only [evalFloat] at h
  split at h
  · rename_i vs hx
    split at h
    · rename_i u hu
      cases h
      have hx' := hρ _ _ hx
      generalize hq : ρ' x = q at hx'; cases hx' with
      | tuple a a' h1 h2 =>
      obtain ⟨u', hu', hr⟩ := ARel.get (K := K) ⟨h1, h2⟩ hu
      exact .val (by simp [execOp, Instr.extract, hq, hu']) hr
    · simp at h
  · simp at h

theorem fl_slice (hρ : RhoRel K ρ ρ') (hR : Rel G K H.get w) {t : TypeId} {x : Operand} {lo hi mx : Option Operand} (h : evalFloat P ⟨dst, .slice t x lo hi mx, type, pos, after, guard⟩ ρ H id = some (v, blk)) :
    FRes P ρ' ⟨dst, .slice t x lo hi mx, type, pos, after, guard⟩ K w id v blk := by
  simp only [evalFloat] at h
  split at h
  · rename_i s lo' hi' hd hx hlo hhi hmx
    cases hb : (Nat.ble (hi'.getD s.size) s.size && Nat.ble (lo'.getD 0) (hi'.getD s.size)) with
    | false => rw [hb] at h; simp at h
    | true =>
      rw [hb] at h; simp only [cond_true] at h; cases h
      simp only [Bool.and_eq_true] at hb
      have hx' := hρ _ _ hx
      generalize hq : ρ' x = q at hx'; cases hx'
      have h1 := optNat_spec hρ hlo; have h2 := optNat_spec hρ hhi; have h3 := optNat_spec hρ hmx
      simp only [BIs] at h3
      refine .val ?_ (.string _)
      have hbs := run_bounds2 (P := P) (isSlice := false) (len := s.size) (cap := s.size) h1 h2 (.inl (Nat.le_of_ble_eq_true hb.1)) (Nat.le_of_ble_eq_true hb.2) w
      simp [execOp, Instr.sliceAt, Instr.slice, hq, run_und hd, h3, hbs]
  · rename_i elem a len c lo' hi' mx' hd hx hlo hhi hmx
    split at h
    · rename_i size hs
      split at h
      · rename_i r hr
        split at h
        · rename_i ad
          split at h
          · rename_i cs e es rw hblk
            cases hb : (Nat.beq es size && !(mx'.isSome && hi'.isNone)) with
            | false => rw [hb] at h; simp at h
            | true =>
              rw [hb] at h; simp only [cond_true] at h; cases h
              simp only [Bool.and_eq_true, Bool.not_eq_true'] at hb
              have hes := Nat.eq_of_beq_eq_true hb.1
              subst hes
              have hx' := hρ _ _ hx
              generalize hq : ρ' x = q at hx'; cases hx' with
              | slice b o n c c' hdm hc =>
              have h1 := optNat_spec hρ hlo; have h2 := optNat_spec hρ hhi; have h3 := optNat_spec hρ hmx
              obtain ⟨_, hesK, _⟩ := hR.read hblk
              simp only at hesK
              have hsl : ∀ (l h' m : Nat) (r' : Value), (Instr.sliceBounds true len c' (lo.map ρ') (hi.map ρ') (mx.map ρ')).run P w = .ok (l, h', m) w →
                  r' = .slice (some (if m = l then ⟨K.ρ b, o, none⟩ else (⟨K.ρ b, o, none⟩ : Addr).add (l * es))) (h' - l) (m - l) →
                  (execOp ρ' ⟨dst, .slice t x lo hi mx, type, pos, after, guard⟩).run P w = .ok (.value r') w := by
                intro l h' m r' hbnd hr'
                subst hr'
                simp only [execOp, Instr.sliceAt, Instr.slice, hq, Sem.run_bind, run_und hd, Result.andThen_ok, hbnd, run_sizeOf hs, Sem.run_pure]
                by_cases hml : m = l <;> simp [hml]
              unfold resl at hr
              cases mx' with
              | some m =>
                obtain ⟨km, h3⟩ := h3
                simp only at hr
                cases hg : (Nat.ble m (c / 2) && Nat.ble (hi'.getD len) m && Nat.ble (lo'.getD 0) (hi'.getD len)) with
                | false => rw [hg] at hr; simp at hr
                | true =>
                  rw [hg] at hr; simp only [cond_true] at hr
                  simp only [Bool.and_eq_true] at hg
                  have g1 := Nat.le_of_ble_eq_true hg.1.1
                  have g2 := Nat.le_of_ble_eq_true hg.1.2
                  have g3 := Nat.le_of_ble_eq_true hg.2
                  cases hi' with
                  | none => simp at hb
                  | some hh =>
                  obtain ⟨kh, h2⟩ := h2
                  simp only [Option.getD_some] at g2 g3 hr
                  have hcap : m ≤ c' := by rcases hc with ⟨_, hc⟩ | ⟨_, hc, _⟩ <;> omega
                  have hbnd := run_bounds3 (P := P) (isSlice := true) (len := len) (cap := c') (km := km) h1 h2 hcap g2 g3 w
                  rw [← h3] at hbnd
                  have hrun := hsl _ _ _ _ hbnd rfl
                  by_cases hml : m = lo'.getD 0
                  · -- all clipped
                    have e : Nat.beq m (lo'.getD 0) = true := by rw [hml]; simp
                    rw [e] at hr
                    simp only [Bool.true_and, cond_true] at hr
                    cases hz : (!(Nat.beq (lo'.getD 0) 0) && !(Nat.beq (c % 2) 1)) with
                    | true => rw [hz] at hr; simp at hr
                    | false =>
                      rw [hz] at hr
                      simp only [cond_false, Option.some.injEq] at hr
                      subst hr
                      exact .val hrun (by rw [if_pos hml]; exact .slice b o _ _ _ hdm (.inl ⟨by omega, by omega⟩))
                  · have e : Nat.beq m (lo'.getD 0) = false := by
                      cases hb2 : Nat.beq m (lo'.getD 0) with
                      | false => rfl
                      | true => exact absurd (Nat.eq_of_beq_eq_true hb2) hml
                    rw [e] at hr
                    simp only [Bool.false_and, cond_false, Option.some.injEq] at hr
                    subst hr
                    refine .val hrun ?_
                    rw [if_neg hml]
                    simp only [Option.map_some, addr_add]
                    exact .slice b _ _ _ _ hdm (.inl ⟨by omega, by omega⟩)
              | none =>
                simp only [BIs] at h3
                simp only at hr
                cases hg : (Nat.ble (hi'.getD len) (c / 2) && Nat.ble (lo'.getD 0) (hi'.getD len)) with
                | false => rw [hg] at hr; simp at hr
                | true =>
                  rw [hg] at hr; simp only [cond_true] at hr
                  simp only [Bool.and_eq_true] at hg
                  have g1 := Nat.le_of_ble_eq_true hg.1
                  have g2 := Nat.le_of_ble_eq_true hg.2
                  have hcap : hi'.getD len ≤ c' := by rcases hc with ⟨_, hc⟩ | ⟨_, hc, _⟩ <;> omega
                  have hbnd := run_bounds2 (P := P) (isSlice := true) (len := len) (cap := c') h1 h2 (.inl hcap) g2 w
                  rw [← h3] at hbnd
                  have hrun := hsl _ _ _ _ hbnd rfl
                  cases hex : Nat.beq (c % 2) 1 with
                  | true =>
                    have hodd := Nat.eq_of_beq_eq_true hex
                    rw [hex] at hr; simp only [cond_true, Option.some.injEq] at hr; subst hr
                    have hc2 : c' = c / 2 := by rcases hc with ⟨_, hc⟩ | ⟨h0, _⟩; exact hc; omega
                    subst hc2
                    refine .val hrun ?_
                    by_cases hml : c / 2 = lo'.getD 0
                    · have e : Nat.beq (c / 2) (lo'.getD 0) = true := by rw [hml]; simp
                      rw [e, if_pos hml]
                      exact .slice b o _ _ _ hdm (.inl ⟨by omega, by omega⟩)
                    · have e : Nat.beq (c / 2) (lo'.getD 0) = false := by
                        cases hb2 : Nat.beq (c / 2) (lo'.getD 0) with
                        | false => rfl
                        | true => exact absurd (Nat.eq_of_beq_eq_true hb2) hml
                      rw [e, if_neg hml]
                      simp only [cond_false, Option.map_some, addr_add]
                      exact .slice b _ _ _ _ hdm (.inl ⟨by omega, by omega⟩)
                  | false =>
                    rw [hex] at hr; simp only [cond_false] at hr
                    have heven : c % 2 = 0 := by
                      have : c % 2 ≠ 1 := fun e => by rw [e] at hex; simp at hex
                      omega
                    obtain ⟨hlo2, hsz⟩ : c / 2 ≤ c' ∧ o + c' * K.es b ≤ K.sz b := by rcases hc with ⟨h1, _⟩ | ⟨_, h2, h3⟩; omega; exact ⟨h2, h3⟩
                    cases hl0 : Nat.beq (lo'.getD 0) 0 with
                    | true =>
                      have hl := Nat.eq_of_beq_eq_true hl0
                      rw [hl0] at hr; simp only [cond_true, Option.some.injEq] at hr; subst hr
                      refine .val hrun ?_
                      rw [hl]
                      simp only [Nat.zero_mul, Nat.sub_zero, addr_add, Nat.add_zero, ite_self]
                      exact .slice b o _ _ _ hdm (.inr ⟨heven, hlo2, hsz⟩)
                    | false =>
                      rw [hl0] at hr; simp only [cond_false] at hr
                      cases hlt : Nat.blt (lo'.getD 0) (c / 2) with
                      | false => rw [hlt] at hr; simp at hr
                      | true =>
                        rw [hlt] at hr; simp only [cond_true, Option.some.injEq] at hr; subst hr
                        have hlt' : lo'.getD 0 < c / 2 := Nat.le_of_ble_eq_true hlt
                        refine .val hrun ?_
                        rw [if_neg (by omega)]
                        simp only [Option.map_some, addr_add]
                        refine .slice b _ _ _ _ hdm (.inr ⟨by omega, by omega, ?_⟩)
                        rw [hesK]
                        have : (c' - lo'.getD 0) * K.es b = c' * K.es b - lo'.getD 0 * K.es b := Nat.sub_mul _ _ _
                        have h5 : lo'.getD 0 * K.es b ≤ c' * K.es b := Nat.mul_le_mul_right _ (by omega)
                        omega
          · simp at h
        · simp at h
      · simp at h
    · simp at h
  · simp at h
end
end Go.Eng
