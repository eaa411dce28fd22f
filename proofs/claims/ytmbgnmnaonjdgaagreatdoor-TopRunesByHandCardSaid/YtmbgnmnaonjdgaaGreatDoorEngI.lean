/- PART OF A PROOF over the given program: EngI. See the last text of the claim for the statement. -/
import Derived.Test.YtmbgnmnaonjdgaaGreatDoorEngH
namespace Go.Eng
open Go

section
variable {P : Program} {G : List Nat} {K : Kr} {w : World} {H H' : AH} {ρ : Operand → Option Value}

def Post (G : List Nat) (K : Kr) (H : AH) (w : World) (H' : AH) (v v' : Value) (w1 : World) : Prop :=
  ∃ K1, VRel K1 v v' ∧ Rel G K1 H'.get w1 ∧ Ext K H.get w K1 H'.get w1 ∧ ∀ b, K1.dom b → K.dom b ∨ (H.next ≤ b ∧ b < H'.next)

def Fresh (K : Kr) (lo hi : Nat) : Prop := ∀ b, lo ≤ b → b < hi → ¬ K.dom b

theorem readSrc_sound (hR : Rel G K H.get w) {size n : Nat} {x x' : Value} {l : List Value} (hx : VRel K x x') (hn : lenSrc x = some n ∨ True) (h : readSrc H size n x = some l) :
    ∃ l' : List Value, l'.length = l.length ∧ LRel K l l' ∧ ∀ w0 : World, w0.heap = w.heap → (Builtin.firstCells size n x').run P w0 = .ok l'.toArray w0 := by
  unfold readSrc at h
  split at h
  · rename_i b o m c
    cases hx with
    | slice b o n' c c' hd hc =>
    obtain ⟨_, l', hlen, hrel, hcell⟩ := read_cells hR h
    refine ⟨l', by rw [hrel.length], hrel, fun w0 hw => ?_⟩
    have := run_loadCells_list (P := P) w0 ⟨K.ρ b, o, none⟩ l' (fun j v hj => by
      have := hcell j v hj
      simp only [World.cell?, hw] at this ⊢
      exact this)
    rw [hlen] at this
    simpa [Builtin.firstCells] using this
  · rename_i m c
    simp only [Option.some.injEq] at h; subst h
    cases hx
    exact ⟨[], rfl, .nil, fun w0 _ => by simp [Builtin.firstCells]⟩
  · rename_i s
    simp only [Option.some.injEq] at h; subst h
    cases hx
    refine ⟨_, rfl, F2.refl fun x hx => ?_, fun w0 _ => ?_⟩
    · obtain ⟨b, _, rfl⟩ := List.mem_map.1 hx
      exact .int _ _
    · simp only [Builtin.firstCells, Sem.run_pure]
      congr 1
      apply Array.ext'
      simp [ByteArray.extract, ByteArray.copySlice]
  · simp at h

theorem lenSrc_sound {x x' : Value} {n : Nat} (hx : VRel K x x') (h : lenSrc x = some n) (w : World) : (Builtin.lenOf x').run P w = .ok n w := by
  unfold lenSrc at h
  split at h
  · simp only [Option.some.injEq] at h; subst h
    cases hx <;> simp [Builtin.lenOf]
  · simp only [Option.some.injEq] at h; subst h
    cases hx; simp [Builtin.lenOf]
  · simp at h

theorem grow_fits {need old bytes : Nat} (h : growBound need bytes = true) (ho : old < need) : ¬ (2 ^ 48 < Builtin.nextslicecap need old * bytes) := by
  have h1 := Nat.le_of_ble_eq_true h
  have h2 := nextslicecap_le ho
  have h3 : Builtin.nextslicecap need old * bytes ≤ (2 * need + 1000) * bytes := Nat.mul_le_mul_right _ (by omega)
  omega

structure ASetup (P : Program) (tys : Array TypeId) (elem : TypeId) (info : TypeInfo) (z : Value) : Prop where
  ht : ∃ sT xT xd, tys[0]? = some sT ∧ tys[1]? = some xT ∧ und P sT = some (.slice elem) ∧ und P xT = some xd ∧ (∀ k, xd ≠ .int k)
  info : P.info? elem = some info
  zero : zeroOf P elem = some z

theorem szOf_info {t : TypeId} {i : TypeInfo} (h : P.info? t = some i) : szOf P t = some i.size := by unfold szOf; rw [h]

theorem run_append_in {tys : Array TypeId} {elem : TypeId} {info : TypeInfo} {z : Value} (hs : ASetup P tys elem info z) (ty : TypeId)
    {a : Addr} {sLen sCap n : Nat} {x : Value} {new : List Value} {w w1 : World} (hl : (Builtin.lenOf x).run P w = .ok n w)
    (hn : (Builtin.firstCells info.size n x).run P w = .ok new.toArray w) (hcap : sLen + n ≤ sCap)
    (hst : (storeCells (a.add (sLen * info.size)) new).run P w = .ok () w1) :
    (Builtin.append_ tys ty #[.slice (some a) sLen sCap, x]).run P w = .ok (.slice (some a) (sLen + n) sCap) w1 := by
  obtain ⟨sT, xT, xd, h0, h1, hu, hux, hni⟩ := hs.ht
  have hz : (match xd with | .int _ => true | _ => false) = false := by cases xd <;> first | rfl | exact absurd rfl (hni _)
  have hx0 : #[Value.slice (some a) sLen sCap, x][0]? = some (Value.slice (some a) sLen sCap) := rfl
  have hx1 : #[Value.slice (some a) sLen sCap, x][1]? = some x := rfl
  simp only [Builtin.append_, h0, h1, hx0, hx1, Sem.run_bind, run_und hu, run_und hux, Result.andThen_ok, run_sizeOf (szOf_info hs.info), Sem.run_pure]
  cases xd <;> first | exact absurd rfl (hni _) | simp [hl, hn, hcap, hst]

theorem run_append_gr {tys : Array TypeId} {elem : TypeId} {info : TypeInfo} {z : Value} (hs : ASetup P tys elem info z) (ty : TypeId)
    {base : Option Addr} {sLen sCap n : Nat} {x : Value} {old new : List Value} {w : World} (hl : (Builtin.lenOf x).run P w = .ok n w)
    (hn : (Builtin.firstCells info.size n x).run P w.drew = .ok new.toArray w.drew) (ho : (Builtin.firstCells info.size sLen (.slice base sLen sCap)).run P w.drew = .ok old.toArray w.drew)
    (hcap : sCap < sLen + n) (hb : growBound (sLen + n) info.bytes = true) (hb0 : info.bytes ≠ 0) :
    ∃ cap, sLen + n ≤ cap ∧ (Builtin.append_ tys ty #[.slice base sLen sCap, x]).run P w = .ok (.slice (some ⟨w.heap.size, 0, none⟩) (sLen + n) cap)
      (w.drew.alloc (.cells (old ++ new ++ (Builtin.zeroCells z.cells (cap - (sLen + n))).toList).toArray elem)) := by
  obtain ⟨sT, xT, xd, h0, h1, hu, hux, hni⟩ := hs.ht
  have hx0 : #[Value.slice base sLen sCap, x][0]? = some (Value.slice base sLen sCap) := rfl
  have hx1 : #[Value.slice base sLen sCap, x][1]? = some x := rfl
  have hfit := grow_fits hb hcap
  have hcap' : ¬ (sLen + n ≤ sCap) := by omega
  refine ⟨(Question.appendCap (sLen + n) sCap elem).cut (w.tape w.drawn (.appendCap (sLen + n) sCap elem)), by simp [Question.cut], ?_⟩
  simp only [Builtin.append_, h0, h1, hx0, hx1, Sem.run_bind, run_und hu, run_und hux, Result.andThen_ok, run_sizeOf (szOf_info hs.info), Sem.run_pure]
  cases xd <;> first
    | exact absurd rfl (hni _)
    | (simp [hl, hn, ho, hcap', run_typeInfo hs.info, hb0, hfit, Question.forced, run_zeroOf hs.zero, newRow]; congr 2; apply Array.ext'; simp)

theorem Post.of_float {id : Nat} {k : Blk} {K1 : Kr} {w1 : World} {v v' : Value} (hR : Rel G K H.get w) (hn : NewB K w id k K1 w1) (hf : ¬ K.dom id) (hv : VRel K1 v v')
    (hg : ∀ j, H'.get j = if j = id then k else H.get j) (h1 : H.next ≤ id) (h2 : id < H'.next) : Post G K H w H' v v' w1 := by
  obtain ⟨a, b⟩ := hn.rel hR hf
  have e : H'.get = fun b => if b = id then k else H.get b := funext hg
  refine ⟨K1, hv, by rw [e]; exact a, by rw [e]; exact b, fun b hb => ?_⟩
  rcases (hn.dom b).1 hb with h | h
  · exact .inl h
  · exact .inr ⟨by omega, by omega⟩

theorem Ext.heap {K : Kr} {h h' : Nat → Blk} {w w0 w1 : World} (e : Ext K h w0 K h' w1) (hw : w0.heap = w.heap) (ho : w0.os = w.os) (ht : w0.tape = w.tape) (hu : w0.output = w.output) : Ext K h w K h' w1 :=
  ⟨e.le, by rw [← hw]; exact e.size, e.os.trans ho, e.tape.trans ht, e.output.trans hu, fun r hr hn => by rw [← hw] at hr ⊢; exact e.old r hr hn, fun b hb => by rw [← hw]; exact e.img b hb, fun b hb => by rw [← hw]; exact e.imgRW b hb⟩

theorem Rel.heap {h : Nat → Blk} {w w0 : World} (hR : Rel G K h w) (hw : w0.heap = w.heap) : Rel G K h w0 :=
  ⟨fun b => by
    have := hR.blk b
    cases hk : h b <;> rw [hk] at this
    · trivial
    · simpa [BRel, hw] using this
    · simpa [BRel, hw] using this, hR.inj, hR.glob⟩

theorem grown_sound {elem : TypeId} {size need cap : Nat} {l : List Value} {l' tail : List Value} {v : Value} (hg : grown H elem size need l = some (v, H')) (hR : Rel G K H.get w) (hl : LRel K l l')
    (hlen : l.length = need * size) (htail : tail.length = (cap - need) * size) (hcap : need ≤ cap) (hf : Fresh K H.next H'.next) :
    Post G K H w H' v (.slice (some ⟨w.heap.size, 0, none⟩) need cap) (w.drew.alloc (.cells (l' ++ tail).toArray elem)) ∧ H'.next = H.next + 1 := by
  unfold grown at hg
  split at hg
  · rename_i H1 hp
    simp only [Option.some.injEq, Prod.mk.injEq] at hg
    obtain ⟨rfl, rfl⟩ := hg
    have hnx := AH.next_push hp
    have hfr : ¬ K.dom H.next := hf _ (Nat.le_refl _) (by omega)
    have hl2 := hl.length
    have hsz : (l' ++ tail).toArray.size = cap * size := by
      simp only [List.size_toArray, List.length_append]
      rw [← hl2, hlen, htail, ← Nat.add_mul, Nat.add_sub_cancel' hcap]
    have hn := newB_cells (K := K) (w := w) (id := H.next) (c := l) (c' := (l' ++ tail).toArray) (e := elem) (es := size) (n := cap * size) (fr := (0, 0))
      (w1 := w.drew.alloc (.cells (l' ++ tail).toArray elem)) hfr rfl rfl rfl (by simp) (fun r hr => by
        show (w.heap.push _)[r]? = _
        rw [Array.getElem?_push, if_neg (by omega)]) (heap_push_new w.drew _) hsz (by simp [hl2]) (fun i v hi => by
        obtain ⟨v', h1, h2⟩ := hl.get i v hi
        refine ⟨v', ?_, h2⟩
        have : i < l'.length := by
          rcases Nat.lt_or_ge i l'.length with h' | h'
          · exact h'
          · rw [List.getElem?_eq_none h'] at h1; simp at h1
        simp [List.getElem?_append_left this, h1]) (.inl rfl)
    refine ⟨Post.of_float hR hn hfr (slice_new (n := need) hn (.inr ⟨by omega, by omega, by simp [Kr.put]⟩)) (fun j => AH.get_push hp j) (Nat.le_refl _) (by omega), hnx⟩
  · simp at hg

theorem dead_rel {b : Nat} {H1 : AH} (hR : Rel G K H.get w) (hd : H.setB b .dead = some H1) : Rel G K H1.get w ∧ Ext K H.get w K H1.get w ∧ H1.next = H.next := by
  have hg := AH.get_setB hd
  have hlv : ∀ j, live (H1.get j) → live (H.get j) := fun j hj => by
    rw [hg j] at hj
    by_cases e : j = b
    · simp [e, live] at hj
    · simpa [e] using hj
  have hlv2 : ∀ j, isRW (H1.get j) → isRW (H.get j) := fun j hj => by
    rw [hg j] at hj
    by_cases e : j = b
    · simp [e, isRW] at hj
    · simpa [e] using hj
  refine ⟨⟨fun j => ?_, fun i j hi hj e => hR.inj i j (hlv i hi) (hlv j hj) e, hR.glob⟩, ⟨Kr.le_refl K, Nat.le_refl _, rfl, rfl, rfl, fun _ _ _ => rfl, fun j hj => .inl ⟨j, hlv j hj, rfl⟩, fun j hj => .inl ⟨j, hlv2 j hj, rfl⟩⟩, AH.next_setB hd⟩
  rw [hg j]
  by_cases e : j = b
  · rw [if_pos e]; trivial
  · rw [if_neg e]; exact hR.blk j

theorem append_sound {tys : Array TypeId} {s x s' x' v : Value} (ty : TypeId) (h : appendA P H tys s x = some (v, H')) (hs : VRel K s s') (hx : VRel K x x') (hR : Rel G K H.get w) (hf : Fresh K H.next H'.next) :
    H.next ≤ H'.next ∧ ∃ v' w1, (Builtin.append_ tys ty #[s', x']).run P w = .ok v' w1 ∧ Post G K H w H' v v' w1 := by
  unfold appendA at h
  split at h
  · rename_i sT xT h0 h1
    split at h
    · rename_i elem xd base sLen c hu hux
      cases hxd : isIntT xd with
      | true => rw [hxd] at h; simp at h
      | false =>
      rw [hxd] at h; simp only [cond_false] at h
      split at h
      · rename_i info z n hi hz hn
        split at h
        · rename_i new hnew
          have hset : ASetup P tys elem info z := ⟨⟨sT, xT, xd, h0, h1, hu, hux, fun k e => by subst e; simp [isIntT] at hxd⟩, hi, hz⟩
          obtain ⟨new', hnl, hnrel, hnrun⟩ := readSrc_sound (P := P) hR hx (.inl hn) hnew
          have hln := fun w0 => lenSrc_sound (P := P) hx hn w0
          cases hle : Nat.ble (sLen + n) (c / 2) with
          | true =>
            rw [hle] at h; simp only [cond_true] at h
            have hle' := Nat.le_of_ble_eq_true hle
            split at h
            · rename_i b o
              split at h
              · rename_i H1 hw1
                simp only [Option.some.injEq, Prod.mk.injEq] at h
                obtain ⟨rfl, rfl⟩ := h
                cases hs with
                | slice _ _ _ _ c' hdm hc =>
                obtain ⟨w1, hst, hRel, hExt, hnx, _⟩ := write_sound (P := P) hw1 hR hnrel
                have hcap : sLen + n ≤ c' := by rcases hc with ⟨_, hc⟩ | ⟨_, hc, _⟩ <;> omega
                refine ⟨by omega, .slice (some ⟨K.ρ b, o, none⟩) (sLen + n) c', w1, ?_, K, .slice b o _ _ _ hdm hc, hRel, hExt, fun b hb => .inl hb⟩
                exact run_append_in hset ty (hln w) (hnrun w rfl) hcap (by rw [addr_add]; exact hst)
              · simp at h
            · simp at h
          | false =>
            rw [hle] at h; simp only [cond_false] at h
            cases hbad : (!(growBound (sLen + n) info.bytes) || Nat.beq info.bytes 0 || !(Nat.beq z.cells.size info.size) || !(Nat.beq new.length (n * info.size))) with
            | true => rw [hbad] at h; simp at h
            | false =>
            rw [hbad] at h; simp only [cond_false] at h
            simp only [Bool.or_eq_false_iff, Bool.not_eq_false'] at hbad
            obtain ⟨⟨⟨hgb, hb0⟩, hzs⟩, hnl2⟩ := hbad
            have hnlen := Nat.eq_of_beq_eq_true hnl2
            have hb0' : info.bytes ≠ 0 := fun e => by rw [e] at hb0; simp at hb0
            have hzs' := Nat.eq_of_beq_eq_true hzs
            have hlt : c / 2 < sLen + n := by
              rcases Nat.lt_or_ge (c / 2) (sLen + n) with h' | h'
              · exact h'
              · exact absurd (Nat.ble_eq_true_of_le h') (by rw [hle]; simp)
            split at h
            · -- nothing there
              cases hs with
              | sliceN c hc =>
              simp only [Nat.beq_refl, cond_true] at h
              obtain ⟨cap, hcap, hrun⟩ := run_append_gr hset ty (base := none) (sLen := 0) (sCap := 0) (old := []) (hln w) (hnrun w.drew rfl) (by simp [Builtin.firstCells]) (by omega) hgb hb0'
              obtain ⟨hp, hnx⟩ := grown_sound (w := w) (cap := cap) (l' := new') (tail := (Builtin.zeroCells z.cells (cap - (0 + n))).toList) h hR hnrel (by simpa using hnlen) (by simp [size_zeroCells, hzs']) (by omega) hf
              exact ⟨by omega, _, _, hrun, by simpa using hp⟩
            · rename_i b o
              cases hs with
              | slice _ _ _ _ c' hdm hc =>
              split at h
              · rename_i old hold
                obtain ⟨_, old', hol, horel, hocell⟩ := read_cells hR hold
                have holen : old.length = sLen * info.size := by rw [horel.length, hol]
                have horun : ∀ w0 : World, w0.heap = w.heap → (Builtin.firstCells info.size sLen (.slice (some ⟨K.ρ b, o, none⟩) sLen c')).run P w0 = .ok old'.toArray w0 := by
                  intro w0 hw0
                  have := run_loadCells_list (P := P) w0 ⟨K.ρ b, o, none⟩ old' (fun j v hj => by
                    have := hocell j v hj
                    simp only [World.cell?, hw0] at this ⊢
                    exact this)
                  rw [hol] at this
                  simpa [Builtin.firstCells] using this
                have hlen2 : (old ++ new).length = (sLen + n) * info.size := by rw [List.length_append, holen, hnlen, Nat.add_mul]
                cases hex : Nat.beq (c % 2) 1 with
                | true =>
                  rw [hex] at h; simp only [cond_true] at h
                  have hodd := Nat.eq_of_beq_eq_true hex
                  have hc2 : c' = c / 2 := by rcases hc with ⟨_, hc⟩ | ⟨h0, _⟩; exact hc; omega
                  obtain ⟨cap, hcap, hrun⟩ := run_append_gr hset ty (base := some ⟨K.ρ b, o, none⟩) (sLen := sLen) (sCap := c') (old := old') (hln w) (hnrun w.drew rfl) (horun w.drew rfl) (by omega) hgb hb0'
                  obtain ⟨hp, hnx⟩ := grown_sound (w := w) (cap := cap) (l' := old' ++ new') (tail := (Builtin.zeroCells z.cells (cap - (sLen + n))).toList) h hR (horel.append hnrel) hlen2 (by simp [size_zeroCells, hzs']) hcap hf
                  exact ⟨by omega, _, _, hrun, hp⟩
                | false =>
                  rw [hex] at h; simp only [cond_false] at h
                  have heven : c % 2 = 0 := by
                    have : c % 2 ≠ 1 := fun e => by rw [e] at hex; simp at hex
                    omega
                  obtain ⟨hlo, hszb⟩ : c / 2 ≤ c' ∧ o + c' * K.es b ≤ K.sz b := by rcases hc with ⟨h1, _⟩ | ⟨_, h2, h3⟩; omega; exact ⟨h2, h3⟩
                  cases ho0 : Nat.beq o 0 with
                  | false => rw [ho0] at h; simp at h
                  | true =>
                    rw [ho0] at h; simp only [cond_true] at h
                    have ho := Nat.eq_of_beq_eq_true ho0
                    subst ho
                    split at h
                    · rename_i cs elem' es hblk
                      cases hq : (Nat.beq es info.size && Nat.beq elem' elem && new.all atomV) with
                      | false => rw [hq] at h; simp at h
                      | true =>
                        rw [hq] at h; simp only [cond_true] at h
                        simp only [Bool.and_eq_true] at hq
                        have hes := Nat.eq_of_beq_eq_true hq.1.1
                        have hel := Nat.eq_of_beq_eq_true hq.1.2
                        split at h
                        · rename_i H1 hd1
                          obtain ⟨hR1, hE1, hn1⟩ := dead_rel hR hd1
                          by_cases hroom : sLen + n ≤ c'
                          · -- in place
                            obtain ⟨_, hesK, _, cur, fr, hh, hsz, hle2, hcv, hfr⟩ := hR.read hblk
                            have hroom2 : (sLen + n) * info.size ≤ cur.size := by
                              have : (sLen + n) * info.size ≤ c' * info.size := Nat.mul_le_mul_right _ hroom
                              rw [← hesK, hes] at hszb
                              omega
                            have hroom3 : sLen * info.size + new'.length ≤ cur.size := by rw [hnl, hnlen, ← Nat.add_mul]; exact hroom2
                            obtain ⟨cur', hst, hsz', hget⟩ := run_storeCells_blk P (K.ρ b) (sLen * info.size) elem' fr new' 0 cur w hh (by omega)
                              (fun v' hv' => by
                                obtain ⟨i, hi, rfl⟩ := List.getElem_of_mem hv'
                                have hi2 : i < new.length := by omega
                                obtain ⟨u', hu', hr⟩ := hnrel.get i new[i] (by simp [hi2])
                                rw [List.getElem?_eq_getElem hi] at hu'
                                cases hu'
                                exact atom_rel hr (List.all_eq_true.1 hq.2 _ (by simp)))
                              (fun j _ hj => unfrozen (hfr rfl) _ (by omega))
                            have hrun := run_append_in hset ty (a := ⟨K.ρ b, 0, none⟩) (hln w) (hnrun w rfl) hroom (by rw [addr_add, Nat.zero_add]; exact hst)
                            unfold grown at h
                            split at h
                            · rename_i H2 hpush
                              simp only [Option.some.injEq, Prod.mk.injEq] at h
                              obtain ⟨rfl, rfl⟩ := h
                              have hnx := AH.next_push hpush
                              have hgp := AH.get_push hpush
                              have hg1 := AH.get_setB hd1
                              have hfr2 : ¬ K.dom H1.next := by rw [hn1]; exact hf _ (Nat.le_refl _) (by omega)
                              have hb_ne : b ≠ H1.next := fun e => hfr2 (e ▸ hdm)
                              have hKle := K.put_le (K.ρ b) (K.sz b) (K.es b) hfr2
                              have hlt' : K.ρ b < w.heap.size := by
                                rcases Nat.lt_or_ge (K.ρ b) w.heap.size with h' | h'
                                · exact h'
                                · simp [Array.getElem?_eq_none h'] at hh
                              have hget2 : ∀ j, H2.get j = if j = H1.next then .cells (old ++ new) elem info.size true else if j = b then .dead else H.get j := fun j => by rw [hgp j, hg1 j]
                              have hρj : ∀ j, j ≠ H1.next → (K.put H1.next (K.ρ b) (K.sz b) (K.es b)).ρ j = K.ρ j := fun j hj => by simp [Kr.put, hj]
                              have hlv : ∀ j, j ≠ H1.next → live (H2.get j) → live (H.get j) ∧ j ≠ b := fun j hj hl => by
                                rw [hget2 j, if_neg hj] at hl
                                by_cases e : j = b
                                · simp [e, live] at hl
                                · rw [if_neg e] at hl; exact ⟨hl, e⟩
                              have hlvb : live (H.get b) := by rw [hblk]; trivial
                              refine ⟨by omega, .slice (some ⟨K.ρ b, 0, none⟩) (sLen + n) c', { w with heap := w.heap.setIfInBounds (K.ρ b) (.cells cur' elem' fr) }, hrun, K.put H1.next (K.ρ b) (K.sz b) (K.es b), ?_, ⟨fun j => ?_, fun i j hi hj e => ?_, fun g hg => ?_⟩, ⟨hKle, by simp, rfl, rfl, rfl, fun r hr hn => ?_, fun j hj => ?_, fun j hj => ?_⟩, fun j hj => ?_⟩
                              · have hh2 := VRel.slice (K := K.put H1.next (K.ρ b) (K.sz b) (K.es b)) H1.next 0 (sLen + n) (2 * (sLen + n)) c' (.inr rfl) (.inr ⟨by omega, by omega, by simpa [Kr.put] using hszb⟩)
                                simpa [Kr.put] using hh2
                              · rw [hget2 j]
                                by_cases hj : j = H1.next
                                · subst hj
                                  rw [if_pos rfl]
                                  refine ⟨.inr rfl, by simp [Kr.put, ← hesK, hes], (by intro h; cases h), cur', fr, by simp [Kr.put, hlt', hel], by simp [Kr.put, hsz', hsz], by rw [hlen2]; omega, fun i v hi => ?_, fun _ => by have := hfr rfl; omega⟩
                                  rw [hget i]
                                  simp only [Nat.add_zero]
                                  by_cases hio : i < sLen * info.size
                                  · rw [if_neg (by omega)]
                                    rw [List.getElem?_append_left (by omega)] at hi
                                    obtain ⟨ho1, ho2⟩ := takeCells_spec (l := cs) (o := 0) (n := sLen * info.size) (r := old) (by
                                      unfold AH.read at hold; rw [hblk] at hold; exact hold)
                                    rw [ho1, List.getElem?_take, if_pos hio, List.drop_zero] at hi
                                    obtain ⟨v', h1', h2'⟩ := hcv i v hi
                                    exact ⟨v', h1', h2'.mono hKle⟩
                                  · rw [List.getElem?_append_right (by omega), holen] at hi
                                    obtain ⟨v', h1', h2'⟩ := hnrel.get _ v hi
                                    have hlt3 : i - sLen * info.size < new'.length := by
                                      rcases Nat.lt_or_ge (i - sLen * info.size) new'.length with h' | h'
                                      · exact h'
                                      · rw [List.getElem?_eq_none h'] at h1'; simp at h1'
                                    rw [if_pos (by omega)]
                                    exact ⟨v', h1', h2'.mono hKle⟩
                                · rw [if_neg hj]
                                  by_cases hjb : j = b
                                  · rw [if_pos hjb]; trivial
                                  · rw [if_neg hjb]
                                    cases hk : H.get j with
                                    | dead => trivial
                                    | cells c4 e4 s4 r4 =>
                                      have := hR.blk j
                                      rw [hk] at this
                                      refine this.old hKle fun r hr _ => ?_
                                      have : K.ρ j ≠ K.ρ b := fun e => hjb (hR.inj j b (by rw [hk]; trivial) hlvb e)
                                      simp only [Array.getElem?_setIfInBounds]
                                      rw [if_neg (by omega)]
                                    | map c4 e4 =>
                                      have := hR.blk j
                                      rw [hk] at this
                                      refine this.old hKle fun r hr _ => ?_
                                      have : K.ρ j ≠ K.ρ b := fun e => hjb (hR.inj j b (by rw [hk]; trivial) hlvb e)
                                      simp only [Array.getElem?_setIfInBounds]
                                      rw [if_neg (by omega)]
                              · by_cases hi1 : i = H1.next <;> by_cases hj1 : j = H1.next
                                · rw [hi1, hj1]
                                · obtain ⟨a1, a2⟩ := hlv j hj1 hj
                                  rw [hρj j hj1, hi1] at e
                                  simp only [Kr.put, if_true] at e
                                  exact absurd (hR.inj b j hlvb a1 e).symm a2
                                · obtain ⟨a1, a2⟩ := hlv i hi1 hi
                                  rw [hρj i hi1, hj1] at e
                                  simp only [Kr.put, if_true] at e
                                  exact absurd (hR.inj i b a1 hlvb e) a2
                                · obtain ⟨a1, _⟩ := hlv i hi1 hi
                                  obtain ⟨b1, _⟩ := hlv j hj1 hj
                                  rw [hρj i hi1, hρj j hj1] at e
                                  exact hR.inj i j a1 b1 e
                              · obtain ⟨d, r⟩ := hR.glob g hg
                                obtain ⟨d', r', _⟩ := hKle g d
                                exact ⟨d', r'.trans r⟩
                              · simp only [Array.getElem?_setIfInBounds]
                                rw [if_neg (hn b (by rw [hblk]; trivial))]
                              · by_cases hj1 : j = H1.next
                                · exact .inl ⟨b, hlvb, by rw [hj1]; simp [Kr.put]⟩
                                · obtain ⟨a1, _⟩ := hlv j hj1 hj
                                  exact .inl ⟨j, a1, (hρj j hj1).symm⟩
                              · by_cases hj1 : j = H1.next
                                · exact .inl ⟨b, by rw [hblk]; trivial, by rw [hj1]; simp [Kr.put]⟩
                                · have hj2 : isRW (H.get j) := by
                                    rw [hget2 j, if_neg hj1] at hj
                                    by_cases e : j = b
                                    · simp [e, isRW] at hj
                                    · rwa [if_neg e] at hj
                                  exact .inl ⟨j, hj2, (hρj j hj1).symm⟩
                              · rcases hj with hj | hj
                                · exact .inl hj
                                · exact .inr ⟨by omega, by omega⟩
                            · simp at h
                          · -- it grows
                            obtain ⟨cap, hcap, hrun⟩ := run_append_gr hset ty (base := some ⟨K.ρ b, 0, none⟩) (sLen := sLen) (sCap := c') (old := old') (hln w) (hnrun w.drew rfl) (horun w.drew rfl) (by omega) hgb hb0'
                            have hf1 : Fresh K H1.next H'.next := by rw [hn1]; exact hf
                            obtain ⟨⟨K1, p1, p2, p3, p4⟩, hnx⟩ := grown_sound (w := w) (cap := cap) (l' := old' ++ new') (tail := (Builtin.zeroCells z.cells (cap - (sLen + n))).toList) h hR1 (horel.append hnrel) hlen2 (by simp [size_zeroCells, hzs']) hcap hf1
                            exact ⟨by omega, _, _, hrun, K1, p1, p2, hE1.trans p3, fun b hb => by have := p4 b hb; rwa [hn1] at this⟩
                        · simp at h
                    · simp at h
              · simp at h
            · simp at h
        · simp at h
      · simp at h
    · simp at h
  · simp at h
end
end Go.Eng
