/- PART OF A PROOF over the given program: EngJ. See the last text of the claim for the statement. -/
import Derived.Test.YtmbgnmnaonjdgaaGreatDoorEngI
namespace Go.Eng
open Go

section
variable {P : Program} {G : List Nat} {K : Kr} {w : World} {H H' : AH} {ρ : Operand → Option Value}

def CallOK (P : Program) (G : List Nat) (call : CallF) : Prop :=
  ∀ f args H v H', call f args H = some (v, H') → H.next ≤ H'.next ∧
    ∀ K w args', Rel G K H.get w → Fresh K H.next H'.next → LRel K args args'.toList →
      Calls P f args' w fun e w1 => ∃ v', e = .returned v' ∧ Post G K H w H' v v' w1

def EffOK (P : Program) (G : List Nat) (o : Oper) (ρ : Operand → Option Value) (H : AH) (v : Value) (H' : AH) : Prop :=
  H.next ≤ H'.next ∧ ∀ K w a (next : Act → World → Prop) Q, Rel G K H.get w → Fresh K H.next H'.next → RhoRel K ρ a.eval →
    (∀ v' w1, Post G K H w H' v v' w1 → next (a.put o.dst v') w1) → o.wp P a w next Q

theorem wp_of_run {o : Oper} {a : Act} {w w1 : World} {v' : Value} {next : Act → World → Prop} {Q : Exit → Act → World → Prop} (h : (execOp a.eval o).run P w = .ok (.value v') w1) (hn : next (a.put o.dst v') w1) : o.wp P a w next Q := by
  unfold Oper.wp; rw [h, Oper.upon_value]; exact hn
theorem wp_of_skip {o : Oper} {a : Act} {w w1 : World} {next : Act → World → Prop} {Q : Exit → Act → World → Prop} (h : (execOp a.eval o).run P w = .ok .skip w1) (hn : next (a.put o.dst undef) w1) : o.wp P a w next Q := by
  unfold Oper.wp; rw [h, Oper.upon_skip]; exact hn

theorem undef_rel : VRel K undef undef := .tuple _ _ rfl (fun i v v' h _ => by simp at h)

theorem callFunc_run {f : FuncId} (h : callable P f = true) (args : Array Value) (w : World) : (callFunc f args).run P w = .ok (.enter f args) w := by
  unfold callable at h
  split at h
  · rename_i fn hf
    simp only [Bool.and_eq_true, Bool.not_eq_true', Option.isSome_iff_exists] at h
    obtain ⟨⟨c, hc⟩, hn⟩ := h
    have hn' : ¬ fn.name = "runtime.NumGoroutine" := fun e => by rw [e] at hn; simp at hn
    simp [callFunc, hf, hn', hc]
  · simp at h

theorem freeze_rel {b : Nat} {c : List Value} {e es : Nat} (hR : Rel G K H.get w) (hb : H.get b = .cells c e es true) {n : Nat} (hn : ∀ c' fr, w.heap[K.ρ b]? = some (.cells c' e fr) → n = c'.size) :
    Rel G K H.get (w.freeze ⟨K.ρ b, n, none⟩ 1) ∧ Ext K H.get w K H.get (w.freeze ⟨K.ρ b, n, none⟩ 1) := by
  obtain ⟨hd, hes, hro, c', fr, hh, hsz, hle, hv, hf⟩ := hR.read hb
  have hn' := hn c' fr hh
  subst hn'
  have hw : w.freeze ⟨K.ρ b, c'.size, none⟩ 1 = { w with heap := w.heap.setIfInBounds (K.ρ b) (.cells c' e (if fr.1 == fr.2 then (c'.size, c'.size + 1) else (min fr.1 c'.size, max fr.2 (c'.size + 1)))) } := by
    unfold World.freeze
    rw [if_neg (by omega)]
    congr 1
    apply Array.ext
    · simp
    · intro j h1 h2
      simp only [Array.getElem_modify]
      rw [Array.getElem_setIfInBounds (by simpa using h2)]
      by_cases hj : K.ρ b = j
      · have hlt : j < w.heap.size := by simpa using h2
        have hx : w.heap[j] = .cells c' e fr := by
          rw [hj, Array.getElem?_eq_getElem hlt] at hh
          exact Option.some.inj hh
        simp [hj, hx]
      · simp [hj]
  have hlt : K.ρ b < w.heap.size := by
    rcases Nat.lt_or_ge (K.ρ b) w.heap.size with h' | h'
    · exact h'
    · simp [Array.getElem?_eq_none h'] at hh
  rw [hw]
  refine ⟨⟨fun j => ?_, hR.inj, hR.glob⟩, ⟨Kr.le_refl K, by simp, rfl, rfl, rfl, fun r hr hn => ?_, fun j hj => .inl ⟨j, hj, rfl⟩, fun j hj => .inl ⟨j, hj, rfl⟩⟩⟩
  · by_cases hj : j = b
    · subst hj
      rw [hb]
      refine ⟨hd, hes, hro, c', _, by simp [hlt]; rfl, hsz, hle, hv, fun _ => ?_⟩
      have := hf rfl
      split
      · simp only; omega
      · simp only
        rename_i hne
        have hne' : fr.1 ≠ fr.2 := fun e => by simp [e] at hne
        omega
    · cases hk : H.get j with
      | dead => trivial
      | cells c4 e4 s4 r4 =>
        have := hR.blk j
        rw [hk] at this
        refine this.old (Kr.le_refl K) fun r hr _ => ?_
        have : K.ρ j ≠ K.ρ b := fun e => hj (hR.inj j b (by rw [hk]; trivial) (by rw [hb]; trivial) e)
        simp only [Array.getElem?_setIfInBounds]
        rw [if_neg (by omega)]
      | map c4 e4 =>
        have := hR.blk j
        rw [hk] at this
        refine this.old (Kr.le_refl K) fun r hr _ => ?_
        have : K.ρ j ≠ K.ρ b := fun e => hj (hR.inj j b (by rw [hk]; trivial) (by rw [hb]; trivial) e)
        simp only [Array.getElem?_setIfInBounds]
        rw [if_neg (by omega)]
  · simp only [Array.getElem?_setIfInBounds]
    rw [if_neg (hn b (by rw [hb]; trivial))]

variable {dst : Option Tmp} {type : TypeId} {pos : String} {after : Array Edge} {guard : Option (Nat × Bool)} {v : Value} {call : CallF}

theorem ef_store {t : TypeId} {x y : Operand} (h : evalEff P call ⟨dst, .store t x y, type, pos, after, guard⟩ ρ H = some (v, H')) : EffOK P G ⟨dst, .store t x y, type, pos, after, guard⟩ ρ H v H' := by
  simp only [evalEff] at h
  split at h
  · rename_i b off u n hx hy hn
    cases hb : Nat.beq u.cells.size n with
    | false => rw [hb] at h; simp at h
    | true =>
      rw [hb] at h; simp only [cond_true] at h
      have hsz := Nat.eq_of_beq_eq_true hb
      split at h
      · rename_i H1 hw1
        simp only [Option.some.injEq, Prod.mk.injEq] at h
        obtain ⟨rfl, rfl⟩ := h
        refine ⟨?_, fun K w a next Q hR hf hρ hn2 => ?_⟩
        · unfold AH.write at hw1
          split at hw1
          · cases hq : u.cells.toList.all atomV <;> rw [hq] at hw1 <;> simp at hw1
            split at hw1
            · exact Nat.le_of_eq (AH.next_setB hw1).symm
            · simp at hw1
          · simp at hw1
        · have hx' := hρ _ _ hx; have hy' := hρ _ _ hy
          generalize hqx : a.eval x = qx at hx'; cases hx' with
          | ptr _ _ hd =>
          have hcl := hy'.cells
          obtain ⟨w1, hst, hRel, hExt, hnx, _⟩ := write_sound (P := P) hw1 hR (vs' := (a.eval y).cells.toList) (F2_of_arr hcl.1 hcl.2)
          refine wp_of_skip (w1 := w1) ?_ (hn2 _ _ ⟨K, undef_rel, hRel, hExt, fun b hb => .inl hb⟩)
          have : (a.eval y).cells.size = n := by rw [← hcl.1]; exact hsz
          simp [execOp, Instr.storeAt, Instr.sureAddr, hqx, storeVar, run_sizeOf hn, this, hst]
      · simp at h
  · simp at h

theorem ef_convert {src d : TypeId} {x : Operand} (h : evalEff P call ⟨dst, .convert src d x, type, pos, after, guard⟩ ρ H = some (v, H')) (he : isEff ⟨dst, .convert src d x, type, pos, after, guard⟩ = true) :
    EffOK P G ⟨dst, .convert src d x, type, pos, after, guard⟩ ρ H v H' := by
  simp only [isEff, Bool.and_eq_true] at he
  have hsd := Nat.eq_of_beq_eq_true he.1
  subst hsd
  simp only [evalEff] at h
  split at h
  · rename_i e a n c hs hx
    split at h
    · rename_i cc ee es hu hb
      simp only [Option.some.injEq, Prod.mk.injEq] at h
      obtain ⟨rfl, rfl⟩ := h
      refine ⟨Nat.le_refl _, fun K w ac next Q hR hf hρ hn2 => ?_⟩
      have hx' := hρ _ _ hx
      generalize hqx : ac.eval x = qx at hx'; cases hx' with
      | slice b o _ _ c' hd hc =>
      obtain ⟨_, _, _, c2, fr, hh, _⟩ := hR.read hb
      obtain ⟨h1, h2⟩ := freeze_rel (n := c2.size) hR hb (fun c3 fr3 h3 => by rw [hh] at h3; cases h3; rfl)
      refine wp_of_run (v' := .slice (some ⟨K.ρ b, o, none⟩) n c') (w1 := w.freeze ⟨K.ρ b, c2.size, none⟩ 1) ?_ (hn2 _ _ ⟨K, .slice b o n c c' hd hc, h1, h2, fun b hb => .inl hb⟩)
      have hsh : w.shape? (K.ρ b) = some (ee, c2.size) := by simp [World.shape?, hh]
      simp [execOp, convert, hqx, run_und hs, run_und hu, markStringish, hsh]
    · simp at h
  · rename_i s hs hx
    simp only [Option.some.injEq, Prod.mk.injEq] at h
    obtain ⟨rfl, rfl⟩ := h
    refine ⟨Nat.le_refl _, fun K w ac next Q hR hf hρ hn2 => ?_⟩
    have hx' := hρ _ _ hx
    generalize hqx : ac.eval x = qx at hx'; cases hx'
    refine wp_of_run (v' := .string s) (w1 := w) ?_ (hn2 _ _ ⟨K, .string s, hR, Ext.refl _ _ _, fun b hb => .inl hb⟩)
    simp [execOp, convert, hqx, run_und hs]
  · rename_i k k2 n hs hx
    simp only [Option.some.injEq, Prod.mk.injEq] at h
    obtain ⟨rfl, rfl⟩ := h
    refine ⟨Nat.le_refl _, fun K w ac next Q hR hf hρ hn2 => ?_⟩
    have hx' := hρ _ _ hx
    generalize hqx : ac.eval x = qx at hx'; cases hx'
    refine wp_of_run (v' := .int k (k.wrap n)) (w1 := w) ?_ (hn2 _ _ ⟨K, .int _ _, hR, Ext.refl _ _ _, fun b hb => .inl hb⟩)
    simp [execOp, convert, hqx, run_und hs, Conv.intToInt]
  · simp at h

theorem two_args {args : Array Operand} {s x : Value} {a : Act} (hρ : RhoRel K ρ a.eval) (hv : vals ρ args.toList = some [s, x]) : ∃ s' x', args.map a.eval = #[s', x'] ∧ VRel K s s' ∧ VRel K x x' := by
  have hl := vals_sound hρ hv
  match hal : args.toList, hl with
  | [p, q], .cons h1 (.cons h2 .nil) =>
    obtain rfl := args_of_list hal
    exact ⟨_, _, by simp, h1, h2⟩

theorem write_next {b o : Nat} {vs : List Value} (h : H.write b o vs = some H') : H'.next = H.next := by
  unfold AH.write at h
  split at h
  · rename_i c e es _
    cases hq : vs.all atomV with
    | false => rw [hq] at h; simp at h
    | true =>
      rw [hq] at h; simp only [cond_true] at h
      split at h
      · exact AH.next_setB h
      · simp at h
  · simp at h
theorem grown_next {elem : TypeId} {size need : Nat} {l : List Value} {v : Value} (h : grown H elem size need l = some (v, H')) : H'.next = H.next + 1 := by
  unfold grown at h
  split at h
  · rename_i H1 hp
    simp only [Option.some.injEq, Prod.mk.injEq] at h
    rw [← h.2]; exact AH.next_push hp
  · simp at h
theorem appendA_next {tys : Array TypeId} {s x v : Value} (h : appendA P H tys s x = some (v, H')) : H.next ≤ H'.next := by
  unfold appendA at h
  simp only [cond_eq_ite] at h
  repeat' (split at h)
  all_goals first
    | (simp only [Option.some.injEq, Prod.mk.injEq, reduceCtorEq] at h; done)
    | (have := grown_next h; omega)
    | (have h2 := grown_next h; rename_i hd; have := AH.next_setB hd; omega)
    | (rename_i hd; simp only [Option.some.injEq, Prod.mk.injEq] at h; rw [← h.2, write_next hd]; exact Nat.le_refl _)

theorem ef_append {args : Array Operand} {tys : Array TypeId} (h : evalEff P call ⟨dst, .call ⟨.builtin .append, args, tys⟩, type, pos, after, guard⟩ ρ H = some (v, H')) :
    EffOK P G ⟨dst, .call ⟨.builtin .append, args, tys⟩, type, pos, after, guard⟩ ρ H v H' := by
  simp only [evalEff] at h
  split at h
  · rename_i s x hv
    refine ⟨?_, fun K w a next Q hR hf hρ hn2 => ?_⟩
    · exact appendA_next h
    · obtain ⟨s', x', hm, hs, hx⟩ := two_args hρ hv
      obtain ⟨_, v', w1, hrun, hp⟩ := append_sound type h hs hx hR hf
      refine wp_of_run (v' := v') (w1 := w1) ?_ (hn2 _ _ hp)
      simp [execOp, resolve, invoke, builtin, hm, hrun]
  · simp at h

theorem ef_copy {args : Array Operand} {tys : Array TypeId} (h : evalEff P call ⟨dst, .call ⟨.builtin .copy, args, tys⟩, type, pos, after, guard⟩ ρ H = some (v, H')) :
    EffOK P G ⟨dst, .call ⟨.builtin .copy, args, tys⟩, type, pos, after, guard⟩ ρ H v H' := by
  simp only [evalEff] at h
  split at h
  · rename_i base dLen c src t hv ht
    split at h
    · rename_i elem hu
      split at h
      · rename_i size sn hsz hsn
        split at h
        · rename_i cells b o hrd
          split at h
          · rename_i H1 hw1
            simp only [Option.some.injEq, Prod.mk.injEq] at h
            obtain ⟨rfl, rfl⟩ := h
            refine ⟨?_, fun K w a next Q hR hf hρ hn2 => ?_⟩
            · unfold AH.write at hw1
              split at hw1
              · cases hq : cells.all atomV <;> rw [hq] at hw1 <;> simp at hw1
                split at hw1
                · exact Nat.le_of_eq (AH.next_setB hw1).symm
                · simp at hw1
              · simp at hw1
            · obtain ⟨s', x', hm, hs, hx⟩ := two_args hρ hv
              cases hs with
              | slice _ _ _ _ c' hd hc =>
              obtain ⟨l', hll, hrel, hrun⟩ := readSrc_sound (P := P) hR hx (.inr trivial) hrd
              obtain ⟨w1, hst, hRel, hExt, hnx, _⟩ := write_sound (P := P) hw1 hR hrel
              refine wp_of_run (v' := .int .i64 (Nat.min sn dLen : Nat)) (w1 := w1) ?_ (hn2 _ _ ⟨K, .int _ _, hRel, hExt, fun b hb => .inl hb⟩)
              simp [execOp, resolve, invoke, builtin, hm, Builtin.copy_, ht, run_und hu, lenSrc_sound hx hsn, run_sizeOf hsz, hrun w rfl, hst, goInt]
          · simp at h
        · rename_i cells hrd
          simp only [Option.some.injEq, Prod.mk.injEq] at h
          obtain ⟨rfl, rfl⟩ := h
          refine ⟨Nat.le_refl _, fun K w a next Q hR hf hρ hn2 => ?_⟩
          obtain ⟨s', x', hm, hs, hx⟩ := two_args hρ hv
          cases hs with
          | sliceN c hc =>
          obtain ⟨l', hll, hrel, hrun⟩ := readSrc_sound (P := P) hR hx (.inr trivial) hrd
          have hrun2 := hrun w rfl
          have e0 : Nat.min sn 0 = 0 := Nat.min_zero sn
          rw [e0] at hrun2
          refine wp_of_run (v' := .int .i64 (Nat.min sn 0 : Nat)) (w1 := w) ?_ (hn2 _ _ ⟨K, .int _ _, hR, Ext.refl _ _ _, fun b hb => .inl hb⟩)
          simp [execOp, resolve, invoke, builtin, hm, Builtin.copy_, ht, run_und hu, lenSrc_sound hx hsn, run_sizeOf hsz, hrun2, goInt]
        · simp at h
      · simp at h
    · simp at h
  · simp at h

theorem ef_value {f : Operand} {args : Array Operand} {tys : Array TypeId} (hcall : CallOK P G call) (h : evalEff P call ⟨dst, .call ⟨.value f, args, tys⟩, type, pos, after, guard⟩ ρ H = some (v, H')) :
    EffOK P G ⟨dst, .call ⟨.value f, args, tys⟩, type, pos, after, guard⟩ ρ H v H' := by
  simp only [evalEff] at h
  split at h
  · rename_i g first cap as hf has
    cases hc : callable P g with
    | false => rw [hc] at h; simp at h
    | true =>
      rw [hc] at h; simp only [cond_true] at h
      obtain ⟨h1, h2⟩ := hcall _ _ _ _ _ h
      refine ⟨h1, fun K w a next Q hR hfr hρ hn => ?_⟩
      have hf' := hρ _ _ hf
      generalize hq : a.eval f = q at hf'; cases hf' with
      | func _ _ first' _ cap' e1 e2 e3 e4 =>
      have hl := vals_sound hρ has
      have hargs : LRel K (first.toList ++ as ++ cap.toList) (first' ++ args.map a.eval ++ cap').toList := by
        simp only [Array.toList_append, Array.toList_map]
        exact ((F2_of_arr e1 e2).append hl).append (F2_of_arr e3 e4)
      have hcalls := h2 K w _ hR hfr hargs
      have hrun : (execOp a.eval ⟨dst, .call ⟨.value f, args, tys⟩, type, pos, after, guard⟩).run P w = .ok (.enter g (first' ++ args.map a.eval ++ cap')) w := by
        simp only [execOp, resolve, hq, Deferred.ofValue, Sem.run_bind, Sem.run_pure, Result.andThen_ok, invoke, callFunc_run hc]
      unfold Oper.wp
      rw [hrun, Oper.upon_enter]
      exact hcalls.mono fun e w1 ⟨v', he, hp⟩ => by subst he; exact hn v' w1 hp
  · simp at h

theorem method_run {t : TypeId} {name : String} {f : FuncId} (h : methodF P t name = some f) (n : Nat) (v : Value) (w : World) : (method (n + 1) t v name).run P w = .ok (f, v) w := by
  unfold methodF at h
  split at h
  · rename_i i d hi hd
    split at h
    · rename_i m hm
      cases hp : m.path.isEmpty with
      | false => rw [hp] at h; simp at h
      | true =>
        rw [hp] at h; simp only [cond_true] at h
        have hpl : m.path.toList = [] := by simpa using hp
        have hfind : i.methods.find? (fun x => x.name == name) = some m := by rw [← Array.find?_toList]; exact hm
        split at h
        · rename_i g e hg
          cases h
          simp [method, run_typeInfo hi, hfind, hpl, follow, hg, receiverAt, run_und hd, Place.get]
        · simp at h
        · rename_i hg hnp
          cases h
          obtain ⟨d2, hd2⟩ : ∃ d2, und P t = some d2 := ⟨_, hd⟩
          have hnp2 : ∀ e, d2 ≠ .pointer e := fun e he => hnp e (Option.some.inj (hd.symm.trans (hd2.trans (by rw [he]))))
          simp only [method, Sem.run_bind, run_typeInfo hi, Result.andThen_ok, hfind, hpl, follow, Sem.run_pure, hg, receiverAt, run_und hd2]
          cases d2 <;> first | (exact absurd rfl (hnp2 _)) | simp [Place.get]
        · simp at h
    · simp at h
  · simp at h

theorem ef_invoke {r : Operand} {name : String} {args : Array Operand} {tys : Array TypeId} (hcall : CallOK P G call) (h : evalEff P call ⟨dst, .call ⟨.invoke r name, args, tys⟩, type, pos, after, guard⟩ ρ H = some (v, H')) :
    EffOK P G ⟨dst, .call ⟨.invoke r name, args, tys⟩, type, pos, after, guard⟩ ρ H v H' := by
  simp only [evalEff] at h
  split at h
  · rename_i t u as hr has
    split at h
    · rename_i g hm
      cases hc : callable P g with
      | false => rw [hc] at h; simp at h
      | true =>
        rw [hc] at h; simp only [cond_true] at h
        obtain ⟨h1, h2⟩ := hcall _ _ _ _ _ h
        refine ⟨h1, fun K w a next Q hR hfr hρ hn => ?_⟩
        have hr' := hρ _ _ hr
        generalize hq : a.eval r = q at hr'; cases hr' with
        | @iface _ _ u' hu =>
        have hl := vals_sound hρ has
        have hargs : LRel K (u :: as) (#[u'] ++ args.map a.eval).toList := by
          simp only [Array.toList_append, Array.toList_map, List.singleton_append]
          exact .cons hu hl
        have hcalls := h2 K w _ hR hfr hargs
        have hrun : (execOp a.eval ⟨dst, .call ⟨.invoke r name, args, tys⟩, type, pos, after, guard⟩).run P w = .ok (.enter g (#[u'] ++ args.map a.eval)) w := by
          have h0 : (#[Value.iface t u'] ++ args.map a.eval)[0]? = some (Value.iface t u') := by
            rw [Array.getElem?_append_left (show 0 < 1 from Nat.one_pos)]; rfl
          have hx : (#[Value.iface t u'] ++ args.map a.eval).extract 1 (#[Value.iface t u'] ++ args.map a.eval).size = args.map a.eval := by
            generalize args.map a.eval = X
            obtain ⟨l⟩ := X
            simp
          have hmr := method_run (P := P) hm (P.types.size + 99) u' w
          simp only [execOp, resolve, hq, Sem.run_bind, Sem.run_pure, Result.andThen_ok, invoke, h0, callMethod, run_program, Made.depth, hmr, hx, callFunc_run hc]
        unfold Oper.wp
        rw [hrun, Oper.upon_enter]
        exact hcalls.mono fun e w1 ⟨v', he, hp⟩ => by subst he; exact hn v' w1 hp
    · simp at h
  · simp at h

/-- EVERY EFFECT. -/
theorem eff_sound (hcall : CallOK P G call) {o : Oper} (he : isEff o = true) (h : evalEff P call o ρ H = some (v, H')) : EffOK P G o ρ H v H' := by
  obtain ⟨dst, op, type, pos, after, guard⟩ := o
  cases op
  case store => exact ef_store h
  case convert => exact ef_convert h he
  case call c =>
    obtain ⟨callee, args, tys⟩ := c
    cases callee with
    | value f => exact ef_value hcall h
    | invoke r m => exact ef_invoke hcall h
    | builtin b =>
      cases b
      case append => exact ef_append h
      case copy => exact ef_copy h
      all_goals simp [evalEff] at h
  all_goals simp [evalEff] at h
end
end Go.Eng
