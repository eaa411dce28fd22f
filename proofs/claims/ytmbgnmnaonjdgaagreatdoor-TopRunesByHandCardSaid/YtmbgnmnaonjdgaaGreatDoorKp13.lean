/- PART OF A PROOF over the given program: Kp13. See the last text of the claim for the statement. -/
import Derived.Test.YtmbgnmnaonjdgaaGreatDoorKp12
namespace Go.Proofs.YtmbgnmnaonjdgaaGreatDoor
open Go Go.RowKit Go.Own

def hasB (l : List Int) (n : Int) : Bool := decide (n ∈ l)

theorem row_reads {w : World} {a : Option Addr} {n c : Nat} {zs : List Int} (h : Row w 3 (.slice a n c) (zs.map (.int .i64))) : n = zs.length ∧ ∀ (j : Nat) x, zs[j]? = some x → ∃ b off, a = some ⟨b, off, none⟩ ∧ w.cell? ⟨b, off + j, none⟩ = some (.int .i64 x) := by
  have hlen : n = zs.length := by
    obtain ⟨a', c', he⟩ := h.len
    simp only [Value.slice.injEq, List.length_map] at he
    exact he.2.1
  refine ⟨hlen, fun j x hj => ?_⟩
  have hv := h
  rcases h with ⟨h, hz⟩ | ⟨b, cap, cur, h, _⟩
  · simp only [List.map_eq_nil_iff] at hz
    subst hz
    simp at hj
  · simp only [Value.slice.injEq] at h
    obtain ⟨rfl, _, _⟩ := h
    exact ⟨b, 0, rfl, by rw [Nat.zero_add]; exact hv.cell rfl (by simp [hj])⟩

/-- a row is cleared. -/
theorem row_clear {w : World} {b n c : Nat} {zs : List Int} (h : Row w 3 (.slice (some ⟨b, 0, none⟩) n c) (zs.map (.int .i64))) (hn : 0 < n) :
    (∀ ty, (Builtin.clear_ #[22] ty #[.slice (some ⟨b, 0, none⟩) n c]).run Tryz.prog w = .ok (.tuple #[]) (w.setCells b 0 (List.replicate n (.int .i64 0)))) := by
  obtain ⟨hlen, hr⟩ := row_reads h
  refine fun ty => clear_run w b n c hn (fun j hj => ?_) (fun j hj => Row.free h rfl j) ty
  have hj' : zs[j]? = some zs[j] := List.getElem?_eq_getElem (by omega)
  obtain ⟨b', off, he, hc⟩ := hr j _ hj'
  simp only [Option.some.injEq, Addr.mk.injEq] at he
  obtain ⟨rfl, rfl, _⟩ := he
  rw [Nat.zero_add] at hc
  rw [hc]; rfl

theorem setCells_block (w : World) (b off : Nat) (vs : List Value) : (∀ k, k ≠ b → (w.setCells b off vs).heap[k]? = w.heap[k]?) ∧ (w.setCells b off vs).heap.size = w.heap.size ∧ (w.setCells b off vs).os = w.os ∧ (w.setCells b off vs).tape = w.tape ∧ (w.setCells b off vs).output = w.output ∧
    ∀ cs e fr, w.heap[b]? = some (.cells cs e fr) → ∃ cs', (w.setCells b off vs).heap[b]? = some (.cells cs' e fr) ∧ cs'.size = cs.size := by
  induction vs generalizing w off with
  | nil => exact ⟨fun _ _ => rfl, rfl, rfl, rfl, rfl, fun cs e fr h => ⟨cs, h, rfl⟩⟩
  | cons x xs ih =>
    obtain ⟨h1, h2, h3, h4, h5, h6⟩ := ih (w.setCell ⟨b, off, none⟩ x) (off + 1)
    refine ⟨fun k hk => ?_, by rw [World.setCells, h2]; simp, by rw [World.setCells, h3]; rfl, by rw [World.setCells, h4]; rfl, by rw [World.setCells, h5]; rfl, fun cs e fr h => ?_⟩
    · rw [World.setCells, h1 k hk]
      exact Below.heap_setCell w ⟨b, off, none⟩ x k hk
    · have hlt : b < w.heap.size := by
        rcases Nat.lt_or_ge b w.heap.size with h' | h'
        · exact h'
        · simp [Array.getElem?_eq_none h'] at h
      have hg : w.heap[b] = .cells cs e fr := by
        rw [Array.getElem?_eq_getElem hlt] at h
        exact Option.some.inj h
      obtain ⟨cs', q1, q2⟩ := h6 (cs.setIfInBounds off x) e fr (by simp [World.setCell, hlt, Array.getElem_modify, hg])
      exact ⟨cs', by rw [World.setCells]; exact q1, by simpa using q2⟩

theorem only_setCells (w : World) (b off : Nat) (vs : List Value) : Only [b] w (w.setCells b off vs) := by
  obtain ⟨h1, h2, h3, h4, h5, _⟩ := setCells_block w b off vs
  exact ⟨h3, h4, h5, Nat.le_of_eq h2.symm, fun k _ hk => h1 k (by simpa using hk)⟩

/-- what is left of a row when all of it is cleared, and it is cut to nothing. -/
theorem row_gone {w : World} {b n c off : Nat} {l vs : List Value} (h : Row w 3 (.slice (some ⟨b, 0, none⟩) n c) l) : Row (w.setCells b off vs) 3 (.slice (some ⟨b, 0, none⟩) 0 c) [] := by
  rcases h with ⟨h, _⟩ | ⟨b', cap, cur, h, hh, h1, h2, _⟩
  · cases h
  · cases h
    obtain ⟨cs', q1, q2⟩ := (setCells_block w b off vs).2.2.2.2.2 cur 3 (0, 0) hh
    exact .inr ⟨b, c, cs', rfl, q1, Nat.zero_le _, by omega, fun j x hj => by simp at hj⟩

section
variable {W : World} {R S T A room : Nat} {rv : Value} {w : World} {K : Nat} {v u p q : Value} {l ats k l2 k2 : List Int} {m : Int}

theorem SetAt.room_eq (h : SetAt w S A room v l ats) : room = ats.length := (row_reads h.arow).1

theorem SetAt.has (h : SetAt w S A room v l ats) {i : Int} (hi : i ∈ l) : 0 ≤ i ∧ i < room := by
  obtain ⟨j, hj⟩ := List.mem_iff_getElem?.1 hi
  obtain ⟨h0, h1⟩ := h.inv j i hj
  have hl : i.toNat < ats.length := by
    rcases Nat.lt_or_ge i.toNat ats.length with h' | h'
    · exact h'
    · rw [List.getElem?_eq_none h'] at h1; cases h1
  have := h.room_eq
  omega

theorem kept_has (h : SetAt w S A room v l ats) (i : Int) :
    Calls Tryz.prog 19 #[.pointer (some ⟨S, 0, none⟩), .int .i64 i] w fun e w' => e = .returned (.bool (hasB l i)) ∧ w' = w := by
  by_cases hio : i < 0 ∨ (room : Int) ≤ i
  · have hb : hasB l i = false := by
      unfold hasB
      rw [decide_eq_false_iff_not]
      intro hm
      have := h.has hm
      omega
    rw [hb]
    exact has_out S _ room room i w hio h.s1
  · obtain ⟨j, rfl⟩ : ∃ j : Nat, i = j := ⟨i.toNat, by omega⟩
    have hjr : j < room := by omega
    have hlen := h.room_eq
    obtain ⟨_, ha⟩ := row_reads h.arow
    have hj' : ats[j]? = some ats[j] := List.getElem?_eq_getElem (by omega)
    obtain ⟨b', off, he, hc⟩ := ha j _ hj'
    simp only [Option.some.injEq, Addr.mk.injEq] at he
    obtain ⟨rfl, rfl, _⟩ := he
    rw [Nat.zero_add] at hc
    have hp := h.pos ats[j] (List.getElem_mem _)
    obtain ⟨kk, hkk⟩ : ∃ kk : Nat, ats[j] = kk := ⟨(ats[j]).toNat, by omega⟩
    rw [hkk] at hc hj'
    obtain ⟨al, cl, hv⟩ := h.srow.len
    rw [List.length_map] at hv
    obtain ⟨_, hl⟩ := row_reads (a := al) (n := l.length) (c := cl) (by rw [← hv]; exact h.srow)
    have hx : ∃ bl x, (kk < l.length → al = some ⟨bl, 0, none⟩ ∧ w.cell? ⟨bl, kk, none⟩ = some (.int .i64 x)) ∧ (kk < l.length → l[kk]? = some x) := by
      by_cases hlt : kk < l.length
      · have hg : l[kk]? = some l[kk] := List.getElem?_eq_getElem hlt
        obtain ⟨b2, o2, he2, hc2⟩ := hl kk _ hg
        have ho : o2 = 0 := by
          rcases h.srow with ⟨q1, _⟩ | ⟨b3, _, _, q1, _⟩
          · rw [hv] at q1; simp only [Value.slice.injEq] at q1; rw [q1.1] at he2; cases he2
          · rw [hv] at q1; simp only [Value.slice.injEq] at q1; rw [q1.1] at he2; cases he2; rfl
        subst ho
        rw [Nat.zero_add] at hc2
        exact ⟨b2, l[kk], fun _ => ⟨he2, hc2⟩, fun _ => hg⟩
      · exact ⟨0, 0, fun h' => absurd h' hlt, fun h' => absurd h' hlt⟩
    obtain ⟨bl, x, hx1, hx2⟩ := hx
    refine (has_in S A bl room room l.length cl j kk x al w hjr h.s1 hc (by rw [h.s0, hv]) hx1).mono ?_
    rintro e w' ⟨rfl, rfl⟩
    refine ⟨congrArg (fun b => Ending.returned (.bool b)) ?_, rfl⟩
    unfold hasB
    rw [Bool.eq_iff_iff]
    simp only [Bool.and_eq_true, decide_eq_true_eq, beq_iff_eq]
    constructor
    · rintro ⟨h1, h2⟩
      have := hx2 h1
      rw [h2] at this
      exact List.mem_of_getElem? this
    · intro hm
      obtain ⟨i', hi'⟩ := List.mem_iff_getElem?.1 hm
      obtain ⟨_, h1⟩ := h.inv i' _ hi'
      simp only [Int.toNat_natCast] at h1
      rw [hj'] at h1
      have e : kk = i' := by
        have := Option.some.inj h1
        omega
      subst e
      have hlt : kk < l.length := by
        rcases Nat.lt_or_ge kk l.length with h' | h'
        · exact h'
        · rw [List.getElem?_eq_none h'] at hi'; cases hi'
      have := hx2 hlt
      rw [hi'] at this
      exact ⟨hlt, by simpa using this.symm⟩

theorem kept_add_no (h : SetAt w S A room v l ats) (i : Int) (hi : i < 0 ∨ (room : Int) ≤ i ∨ hasB l i = true) :
    Calls Tryz.prog 14 #[.pointer (some ⟨S, 0, none⟩), .int .i64 i] w fun e w' => e = .returned (.bool false) ∧ w' = w := by
  by_cases hio : i < 0 ∨ (room : Int) ≤ i
  · exact add_out S _ room room i w hio h.s1
  · obtain ⟨j, rfl⟩ : ∃ j : Nat, i = j := ⟨i.toNat, by omega⟩
    have hb : hasB l j = true := by
      rcases hi with h' | h' | h'
      · omega
      · omega
      · exact h'
    have hh := kept_has h j
    rw [hb] at hh
    exact add_there S _ room room j w (by omega) h.s1 hh

theorem kept_add_yes (h : Kept W R S T A room rv w K v u p q l ats k l2 k2 m) (i : Int) (h0 : 0 ≤ i) (h1 : i < room) (hb : hasB l i = false) (hn : l.length ≤ 1000) :
    Calls Tryz.prog 14 #[.pointer (some ⟨S, 0, none⟩), .int .i64 i] w fun e w' => e = .returned (.bool true) ∧ ∃ v' ats', Kept W R S T A room rv w' K v' u p q (l ++ [i]) ats' k l2 k2 m := by
  obtain ⟨j, rfl⟩ : ∃ j : Nat, i = j := ⟨i.toNat, by omega⟩
  have hs := h.set
  have hh := kept_has hs j
  rw [hb] at hh
  have hlen := hs.room_eq
  obtain ⟨_, ha⟩ := row_reads hs.arow
  obtain ⟨b', off, he, hc⟩ := ha j _ (List.getElem?_eq_getElem (by omega))
  simp only [Option.some.injEq, Addr.mk.injEq] at he
  obtain ⟨rfl, rfl, _⟩ := he
  rw [Nat.zero_add] at hc
  have hAS : A ≠ S := h.sep.ne 3 1 A S rfl rfl (by decide)
  have hne : ∀ b, v.ownBlock = some b → b ≠ S ∧ b ≠ A := fun b hb => ⟨h.sep.ne 4 1 b S (by simp [hb]) rfl (by decide), h.sep.ne 4 3 b A (by simp [hb]) rfl (by decide)⟩
  refine (add_new S A room room j v l _ w (by omega) hn hAS hs.s0 hs.f0 hs.s1 hc (Row.free hs.arow rfl j) hs.srow hne hh).mono ?_
  rintro e w' ⟨rfl, v', w2, rfl, hO, hrow, hM, hblk⟩
  have hSlt := cell_lt hs.s0
  have hAlt := cell_lt hc
  have hSn : S ∉ A :: v.ownBlock.toList := fun hm => by
    rcases List.mem_cons.1 hm with hm | hm
    · exact hAS hm.symm
    · exact (hne S (by simpa using hm)).1 rfl
  have hO2 : Only (S :: A :: v.ownBlock.toList) w (w2.setCell ⟨S, 0, none⟩ v') := (hO.mono fun b hb => List.mem_cons_of_mem S hb).setCell ⟨S, 0, none⟩ v' fun _ => List.mem_cons_self
  have hOS : Only [S] w2 (w2.setCell ⟨S, 0, none⟩ v') := (Only.refl [S] w2).setCell ⟨S, 0, none⟩ v' fun _ => List.mem_cons_self
  have hnew : ∀ b, v'.ownBlock = some b → b ≠ S := fun b hb => by
    rcases hM with hM | hM | ⟨b', hM, hle⟩
    · exact (hne b (by rw [← hM]; exact hb)).1
    · rw [hM] at hb; cases hb
    · rw [hM] at hb; cases hb; omega
  have harow : Row w2 3 (.slice (some ⟨A, 0, none⟩) room room) ((ats.set j l.length).map (.int .i64)) := by
    have h1 := hs.arow.setCell (i := j) (by rw [List.length_map]; omega) (.int .i64 l.length)
    rw [← List.map_set] at h1
    rcases h1 with ⟨h1, _⟩ | ⟨b3, cap, cur, q1, q2, q3⟩
    · cases h1
    · cases q1
      exact .inr ⟨A, _, cur, rfl, by rw [hblk]; exact q2, q3⟩
  refine ⟨rfl, v', ats.set j l.length, h.setStep hO2 hM ⟨?_, ?_, ?_, ?_, ?_, ?_, ?_⟩⟩
  · exact World.cell?_setCell_same' _ _ _ (by rw [hO.cell hs.s0 hSn hSlt]; rfl)
  · rw [World.cell?_setCell_other _ _ _ _ (by simp)]
    exact hO.cell hs.s1 hSn hSlt
  · have := hO.frozen hs.f0 hSn hSlt
    simpa using this
  · exact harow.only hOS fun b hb => by
      simp only [Value.ownBlock, Option.some.injEq] at hb
      subst hb
      simpa using hAS
  · exact hrow.only hOS fun b hb => by simpa using hnew b hb
  · intro kk x hx
    rw [List.getElem?_append] at hx
    split at hx
    · obtain ⟨q1, q2⟩ := hs.inv kk x hx
      refine ⟨q1, ?_⟩
      rw [List.getElem?_set]
      by_cases hj : j = x.toNat
      · exfalso
        have hx' : x = j := by omega
        have : hasB l j = true := by
          unfold hasB
          rw [decide_eq_true_eq, ← hx']
          exact List.mem_of_getElem? hx
        rw [hb] at this
        cases this
      · rw [if_neg hj]
        exact q2
    · rename_i hge
      have : kk - l.length = 0 := by
        rcases Nat.eq_zero_or_pos (kk - l.length) with h' | h'
        · exact h'
        · rw [List.getElem?_eq_none (by simp; omega)] at hx; cases hx
      rw [this] at hx
      simp only [List.getElem?_cons_zero, Option.some.injEq] at hx
      subst hx
      refine ⟨by omega, ?_⟩
      rw [Int.toNat_natCast, List.getElem?_set]
      simp only [if_true]
      rw [if_pos (by omega)]
      have : kk = l.length := by omega
      rw [this]
  · intro a ha
    rcases List.mem_or_eq_of_mem_set ha with h' | h'
    · exact hs.pos a h'
    · omega
end
end Go.Proofs.YtmbgnmnaonjdgaaGreatDoor
