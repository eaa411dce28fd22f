/- PART OF A PROOF over the given program: Kp14. See the last text of the claim for the statement. -/
import Derived.Test.YtmbgnmnaonjdgaaGreatDoorKp13
namespace Go.Proofs.YtmbgnmnaonjdgaaGreatDoor
open Go Go.RowKit Go.Own
section
variable {W : World} {R S T A room : Nat} {rv : Value} {w : World} {K : Nat} {v u p q : Value} {l ats k l2 k2 : List Int} {m : Int}

theorem kept_clear_set (h : Kept W R S T A room rv w K v u p q l ats k l2 k2 m) :
    Calls Tryz.prog 15 #[.pointer (some ⟨S, 0, none⟩)] w fun e w' => e = .returned (.tuple #[]) ∧ ∃ v', Kept W R S T A room rv w' K v' u p q [] ats k l2 k2 m := by
  have hs := h.set
  have hSlt := cell_lt hs.s0
  have hSA : S ≠ A := h.sep.ne 1 3 S A rfl rfl (by decide)
  obtain ⟨al, cl, hv⟩ := hs.srow.len
  rw [List.length_map] at hv
  by_cases hn : l.length = 0
  · have hl : l = [] := List.eq_nil_of_length_eq_zero hn
    subst hl
    simp only [List.length_nil] at hv
    refine (clear_set_none S cl al w (by rw [hs.s0, hv]) hs.f0).mono ?_
    rintro e w' ⟨rfl, rfl⟩
    have hO : Only (S :: A :: v.ownBlock.toList) w (w.setCell ⟨S, 0, none⟩ (.slice al 0 cl)) := (Only.refl _ w).setCell ⟨S, 0, none⟩ _ fun _ => List.mem_cons_self
    have hOS : Only [S] w (w.setCell ⟨S, 0, none⟩ (.slice al 0 cl)) := (Only.refl _ w).setCell ⟨S, 0, none⟩ _ fun _ => List.mem_cons_self
    refine ⟨rfl, v, h.setStep hO (.inl rfl) ⟨?_, ?_, by simpa using hs.f0, hs.arow.only hOS fun b hb => ?_, hs.srow.only hOS fun b hb => ?_, fun k x hx => by simp at hx, hs.pos⟩⟩
    · rw [hv]; exact World.cell?_setCell_same' _ _ _ (by rw [hs.s0]; rfl)
    · rw [World.cell?_setCell_other _ _ _ _ (by simp)]; exact hs.s1
    · simp only [Value.ownBlock, Option.some.injEq] at hb
      subst hb
      simpa using fun e => hSA e.symm
    · have := h.sep.ne 4 1 b S (by simp [hb]) rfl (by decide)
      simpa using this
  · obtain ⟨b, hal⟩ : ∃ b, al = some ⟨b, 0, none⟩ := by
      rcases hs.srow with ⟨q1, q2⟩ | ⟨b3, _, _, q1, _⟩
      · rw [List.map_eq_nil_iff] at q2; rw [q2] at hn; simp at hn
      · rw [hv] at q1; simp only [Value.slice.injEq] at q1; exact ⟨b3, q1.1⟩
    subst hal
    subst hv
    have hbS : b ≠ S := h.sep.ne 4 1 b S rfl rfl (by decide)
    have hbA : b ≠ A := h.sep.ne 4 3 b A rfl rfl (by decide)
    have hcl := row_clear hs.srow (by omega)
    have hO1 := only_setCells w b 0 (List.replicate l.length (.int .i64 0))
    refine (clear_set_some S b l.length cl w _ hcl hs.s0 (hO1.cell hs.s0 (by simpa using fun e => hbS e.symm) hSlt) (hO1.frozen hs.f0 (by simpa using fun e => hbS e.symm) hSlt)).mono ?_
    rintro e w' ⟨rfl, rfl⟩
    have hO2 : Only (S :: A :: (Value.slice (some ⟨b, 0, none⟩) l.length cl).ownBlock.toList) w ((w.setCells b 0 (List.replicate l.length (.int .i64 0))).setCell ⟨S, 0, none⟩ (.slice (some ⟨b, 0, none⟩) 0 cl)) :=
      (hO1.mono fun x hx => by simp at hx; simp [hx, Value.ownBlock]).setCell ⟨S, 0, none⟩ _ fun _ => List.mem_cons_self
    have hOS : Only [S] (w.setCells b 0 (List.replicate l.length (.int .i64 0))) ((w.setCells b 0 (List.replicate l.length (.int .i64 0))).setCell ⟨S, 0, none⟩ (.slice (some ⟨b, 0, none⟩) 0 cl)) := (Only.refl _ _).setCell ⟨S, 0, none⟩ _ fun _ => List.mem_cons_self
    refine ⟨rfl, .slice (some ⟨b, 0, none⟩) 0 cl, h.setStep hO2 (.inl rfl) ⟨?_, ?_, ?_, (hs.arow.only hO1 fun b' hb' => ?_).only hOS fun b' hb' => ?_, (row_gone hs.srow).only hOS fun b' hb' => ?_, fun k x hx => by simp at hx, hs.pos⟩⟩
    · exact World.cell?_setCell_same' _ _ _ (by rw [hO1.cell hs.s0 (by simpa using fun e => hbS e.symm) hSlt]; rfl)
    · rw [World.cell?_setCell_other _ _ _ _ (by simp)]; exact hO1.cell hs.s1 (by simpa using fun e => hbS e.symm) hSlt
    · have := hO1.frozen hs.f0 (by simpa using fun e => hbS e.symm) hSlt
      simpa using this
    · simp only [Value.ownBlock, Option.some.injEq] at hb'
      subst hb'
      simpa using fun e => hbA e.symm
    · simp only [Value.ownBlock, Option.some.injEq] at hb'
      subst hb'
      simpa using fun e => hSA e.symm
    · simp only [Value.ownBlock, Option.some.injEq] at hb'
      subst hb'
      simpa using hbS

theorem kept_push (h : Kept W R S T A room rv w K v u p q l ats k l2 k2 m) (x : Int) (hm : 0 ≤ m ∧ m ≤ 1000) (hn : k.length ≤ 1000) :
    Calls Tryz.prog 16 #[.pointer (some ⟨T, 0, none⟩), .int .i64 x] w fun e w' => e = .returned (.tuple #[]) ∧ ∃ u', Kept W R S T A room rv w' K v u' p q l ats (k ++ [x]) l2 k2 (if m < k.length + 1 then k.length + 1 else m) := by
  refine (push_any T u m x k w hm hn h.stk).mono ?_
  rintro e w' ⟨rfl, u', h1, h2, h3⟩
  exact ⟨rfl, u', h.stkStep h3 h2 h1⟩

theorem kept_pop_none (h : Kept W R S T A room rv w K v u p q l ats [] l2 k2 m) :
    Calls Tryz.prog 17 #[.pointer (some ⟨T, 0, none⟩)] w fun e w' => e = .returned (.tuple #[.int .i64 0, .bool false]) ∧ w' = w := by
  obtain ⟨a, c, hv⟩ := h.stk.row.len
  exact pop_none T c a w (by rw [h.stk.c0, hv]; rfl)

theorem kept_pop_some {k0 : List Int} {x : Int} (h : Kept W R S T A room rv w K v u p q l ats (k0 ++ [x]) l2 k2 m) (hn : k0.length ≤ 1000) :
    Calls Tryz.prog 17 #[.pointer (some ⟨T, 0, none⟩)] w fun e w' => e = .returned (.tuple #[.int .i64 x, .bool true]) ∧ ∃ u', Kept W R S T A room rv w' K v u' p q l ats k0 l2 k2 m := by
  have hs := h.stk
  have hlt := hs.lt
  have hlen : ((k0 ++ [x]).map (Value.int .i64)).length = k0.length + 1 := by simp
  rcases hs.row with ⟨_, q2⟩ | ⟨b, cap, cur, hv, hh, hcap, hcs, hcell⟩
  · simp at q2
  · rw [hlen] at hv hcap
    subst hv
    have hbT : b ≠ T := h.sep.ne 5 2 b T rfl rfl (by decide)
    have hrow := hs.row
    have hx : w.cell? ⟨b, k0.length, none⟩ = some (.int .i64 x) := by
      have := hrow.cell (b := b) rfl (j := k0.length) (x := .int .i64 x) (by simp)
      exact this
    refine (pop_some T b k0.length cap x w hbT hcap hn hs.c0 hs.f0 hx (Row.free hrow rfl _)).mono ?_
    rintro e w' ⟨rfl, rfl⟩
    have hO1 : Only [b] w (w.setCell ⟨b, k0.length, none⟩ (.int .i64 0)) := (Only.refl _ w).setCell ⟨b, k0.length, none⟩ _ fun _ => List.mem_cons_self
    have hOT : Only [T] (w.setCell ⟨b, k0.length, none⟩ (.int .i64 0)) ((w.setCell ⟨b, k0.length, none⟩ (.int .i64 0)).setCell ⟨T, 0, none⟩ (.slice (some ⟨b, 0, none⟩) k0.length cap)) := (Only.refl _ _).setCell ⟨T, 0, none⟩ _ fun _ => List.mem_cons_self
    have hO2 : Only (T :: (Value.slice (some ⟨b, 0, none⟩) (k0.length + 1) cap).ownBlock.toList) w ((w.setCell ⟨b, k0.length, none⟩ (.int .i64 0)).setCell ⟨T, 0, none⟩ (.slice (some ⟨b, 0, none⟩) k0.length cap)) :=
      (hO1.mono fun y hy => by simp at hy; simp [hy, Value.ownBlock]).setCell ⟨T, 0, none⟩ _ fun _ => List.mem_cons_self
    have hTb : T ∉ [b] := by simpa using fun e => hbT e.symm
    have hr1 : Row (w.setCell ⟨b, k0.length, none⟩ (.int .i64 0)) 3 (.slice (some ⟨b, 0, none⟩) k0.length cap) (k0.map (.int .i64)) := by
      have h1 := (hrow.setCell (i := k0.length) (by simp) (.int .i64 0)).cut (m := k0.length) (by simp)
      have e : (((k0 ++ [x]).map (Value.int .i64)).set k0.length (.int .i64 0)).take k0.length = k0.map (.int .i64) := by
        rw [List.take_set_of_le (Nat.le_refl _)]
        simp
      rw [e] at h1
      exact h1
    refine ⟨rfl, .slice (some ⟨b, 0, none⟩) k0.length cap, h.stkStep hO2 (.inl rfl) ⟨?_, ?_, ?_, ?_, hr1.only hOT fun b' hb' => ?_, fun b' hb' => ?_⟩⟩
    · exact World.cell?_setCell_same' _ _ _ (by rw [hO1.cell hs.c0 hTb hlt]; rfl)
    · rw [World.cell?_setCell_other _ _ _ _ (by simp)]; exact hO1.cell hs.c1 hTb hlt
    · have := hO1.frozen hs.f0 hTb hlt; simpa using this
    · have := hO1.frozen hs.f1 hTb hlt; simpa using this
    · simp only [Value.ownBlock, Option.some.injEq] at hb'
      subst hb'
      simpa using hbT
    · simp only [Value.ownBlock, Option.some.injEq] at hb'
      subst hb'
      exact hbT

theorem kept_clear_stack (h : Kept W R S T A room rv w K v u p q l ats k l2 k2 m) :
    Calls Tryz.prog 18 #[.pointer (some ⟨T, 0, none⟩)] w fun e w' => e = .returned (.tuple #[]) ∧ ∃ u', Kept W R S T A room rv w' K v u' p q l ats [] l2 k2 0 := by
  have hs := h.stk
  have hlt := hs.lt
  obtain ⟨al, cl, hv⟩ := hs.row.len
  rw [List.length_map] at hv
  by_cases hn : k.length = 0
  · have hl : k = [] := List.eq_nil_of_length_eq_zero hn
    subst hl
    simp only [List.length_nil] at hv
    refine (clear_stack_none T cl al m w (by rw [hs.c0, hv]) hs.c1 hs.f0 hs.f1).mono ?_
    rintro e w' ⟨rfl, rfl⟩
    subst hv
    obtain ⟨g1, g2⟩ := hs.set (m' := 0) (w2 := (w.setCell ⟨T, 0, none⟩ (.slice al 0 cl)).setCell ⟨T, 1, none⟩ (.int .i64 0)) (Only.refl _ w) hs.row (.inl rfl) rfl ⟨rfl, rfl, rfl⟩
    exact ⟨rfl, _, h.stkStep g2 (.inl rfl) g1⟩
  · obtain ⟨b, hal⟩ : ∃ b, al = some ⟨b, 0, none⟩ := by
      rcases hs.row with ⟨q1, q2⟩ | ⟨b3, _, _, q1, _⟩
      · rw [List.map_eq_nil_iff] at q2; rw [q2] at hn; simp at hn
      · rw [hv] at q1; simp only [Value.slice.injEq] at q1; exact ⟨b3, q1.1⟩
    subst hal
    subst hv
    have hbT : b ≠ T := h.sep.ne 5 2 b T rfl rfl (by decide)
    have hTb : T ∉ [b] := by simpa using fun e => hbT e.symm
    have hcl := row_clear hs.row (by omega)
    have hO1 := only_setCells w b 0 (List.replicate k.length (.int .i64 0))
    refine (clear_stack_some T b k.length cl m w _ hcl hs.c0 (hO1.cell hs.c0 hTb hlt) (hO1.cell hs.c1 hTb hlt) (hO1.frozen hs.f0 hTb hlt) (hO1.frozen hs.f1 hTb hlt)).mono ?_
    rintro e w' ⟨rfl, rfl⟩
    obtain ⟨g1, g2⟩ := hs.set (m' := 0) (zs' := []) (w2 := ((w.setCells b 0 (List.replicate k.length (.int .i64 0))).setCell ⟨T, 0, none⟩ (.slice (some ⟨b, 0, none⟩) 0 cl)).setCell ⟨T, 1, none⟩ (.int .i64 0)) (hO1.mono fun y hy => by simp at hy; simp [hy, Value.ownBlock]) (row_gone hs.row) (.inl rfl) rfl ⟨rfl, rfl, rfl⟩
    exact ⟨rfl, .slice (some ⟨b, 0, none⟩) 0 cl, h.stkStep (u' := .slice (some ⟨b, 0, none⟩) 0 cl) g2 (.inl rfl) g1⟩

/-! ### what is asked -/
theorem kept_len (h : Kept W R S T A room rv w K v u p q l ats k l2 k2 m) : Calls Tryz.prog 20 #[.pointer (some ⟨S, 0, none⟩)] w fun e w' => e = .returned (.int .i64 l.length) ∧ w' = w := by
  obtain ⟨a, c, hv⟩ := h.set.srow.len
  rw [List.length_map] at hv
  exact len_set S a l.length c w (by rw [h.set.s0, hv])

theorem kept_depth (h : Kept W R S T A room rv w K v u p q l ats k l2 k2 m) : Calls Tryz.prog 23 #[.pointer (some ⟨T, 0, none⟩)] w fun e w' => e = .returned (.int .i64 k.length) ∧ w' = w := by
  obtain ⟨a, c, hv⟩ := h.stk.row.len
  rw [List.length_map] at hv
  exact len_stack T a k.length c w (by rw [h.stk.c0, hv])

theorem kept_most (h : Kept W R S T A room rv w K v u p q l ats k l2 k2 m) : Calls Tryz.prog 24 #[.pointer (some ⟨T, 0, none⟩)] w fun e w' => e = .returned (.int .i64 m) ∧ w' = w :=
  most_stack T m w h.stk.c1

theorem kept_list (h : Kept W R S T A room rv w K v u p q l ats k l2 k2 m) (hn : l.length ≤ 1000) : Calls Tryz.prog 22 #[.pointer (some ⟨S, 0, none⟩)] w fun e w' => ∃ a c, e = .returned (.slice a l.length c) ∧ Row w' 3 (.slice a l.length c) (l.map (.int .i64)) ∧ Kept W R S T A room rv w' K v u p q l ats k l2 k2 m := by
  refine (list_any S v l w hn h.set.s0 h.set.srow).mono ?_
  rintro e w' ⟨v', rfl, hr, hB⟩
  obtain ⟨a, c, hv⟩ := hr.len
  rw [List.length_map] at hv
  subst hv
  exact ⟨a, c, rfl, hr, h.same (only_below hB)⟩

theorem kept_ints {a1 a2 : Option Addr} {c1 c2 : Nat} (h : Kept W R S T A room rv w K v u (.slice a2 l.length c2) q l ats k l k2 m) (hn : l.length ≤ 1000) (hr : Row w 3 (.slice a1 l.length c1) (l.map (.int .i64))) :
    Calls Tryz.prog 21 #[.slice a1 l.length c1, .slice a2 l.length c2] w fun e w' => e = .returned (.bool true) ∧ Kept W R S T A room rv w' K v u (.slice a2 l.length c2) q l ats k l k2 m := by
  refine (ints_same a1 a2 c1 c2 l w (by omega) (row_reads hr).2 (row_reads h.prow).2).mono ?_
  rintro e w' ⟨rfl, i, rfl⟩
  exact ⟨rfl, h.same (only_drewN w i)⟩
end
end Go.Proofs.YtmbgnmnaonjdgaaGreatDoor
