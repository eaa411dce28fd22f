/- PART OF A PROOF over the given program: EngD. See the last text of the claim for the statement. -/
import Derived.Test.YtmbgnmnaonjdgaaGreatDoorEngC
namespace Go.Eng
open Go

section
variable {P : Program} {G : List Nat} {K : Kr} {w : World} {H : AH} {ρ : Operand → Option Value} {ρ' : Operand → Value}

def FRes (P : Program) (ρ' : Operand → Value) (o : Oper) (K : Kr) (w : World) (id : Nat) : Value → Option Blk → Prop
  | v, none => ∃ v', (execOp ρ' o).run P w = .ok (.value v') w ∧ VRel K v v'
  | v, some k => ¬ K.dom id → ∃ v' K1 w1, (execOp ρ' o).run P w = .ok (.value v') w1 ∧ VRel K1 v v' ∧ NewB K w id k K1 w1

theorem FRes.val {o : Oper} {id : Nat} {v v' : Value} (h : (execOp ρ' o).run P w = .ok (.value v') w) (hv : VRel K v v') : FRes P ρ' o K w id v none := ⟨v', h, hv⟩

theorem ARel.extract {a a' : Array Value} (h : ARel K a a') (i j : Nat) : ARel K (a.extract i j) (a'.extract i j) := by
  have := (F2.drop i h.list).take (j - i)
  exact ARel.of_list (by simpa using this)

theorem ARel.get {a a' : Array Value} (h : ARel K a a') {i : Nat} {v : Value} (hi : a[i]? = some v) : ∃ v', a'[i]? = some v' ∧ VRel K v v' := by
  obtain ⟨v', h1, h2⟩ := h.list.get i v (by simpa using hi)
  exact ⟨v', by simpa using h1, h2⟩

theorem ARel.mono {K' : Kr} (hK : K.le K') {a a' : Array Value} (h : ARel K a a') : ARel K' a a' := ⟨h.1, fun i v v' h1 h2 => (h.2 i v v' h1 h2).mono hK⟩

theorem part_sound {t : TypeId} {d : TypeDesc} {n off : Nat} {cs cs' : Array Value} {r : Value} (hd : und P t = some d) (hn : szOf P t = some n) (hc : ARel K cs cs')
    (h : (bif isAggT d then some (.agg (cs.extract off (off + n))) else cs[off]?) = some r) : ∃ r', (part t cs' off).run P w = .ok r' w ∧ VRel K r r' := by
  cases hag : isAggT d with
  | true =>
    rw [hag] at h; simp only [cond_true, Option.some.injEq] at h; subst h
    refine ⟨.agg (cs'.extract off (off + n)), ?_, ?_⟩
    · simp [part, run_isAgg hd, hag, run_sizeOf hn]
    · exact .agg _ _ (hc.extract _ _).1 (hc.extract _ _).2
  | false =>
    rw [hag] at h; simp only [cond_false] at h
    obtain ⟨v', h1, h2⟩ := hc.get h
    refine ⟨v', ?_, h2⟩
    simp [part, run_isAgg hd, hag, h1]


variable (hρ : RhoRel K ρ ρ') (hR : Rel G K H.get w)
variable {dst : Option Tmp} {type : TypeId} {pos : String} {after : Array Edge} {guard : Option (Nat × Bool)} {id : Nat} {v : Value} {blk : Option Blk}
include hρ

theorem fl_move {x : Operand} (h : evalFloat P ⟨dst, .move x, type, pos, after, guard⟩ ρ H id = some (v, blk)) : FRes P ρ' ⟨dst, .move x, type, pos, after, guard⟩ K w id v blk := by
  simp only [evalFloat] at h
  split at h
  · rename_i u hu; cases h; exact .val rfl (hρ _ _ hu)
  · simp at h
theorem fl_assign {x : Operand} (h : evalFloat P ⟨dst, .assign x, type, pos, after, guard⟩ ρ H id = some (v, blk)) : FRes P ρ' ⟨dst, .assign x, type, pos, after, guard⟩ K w id v blk := by
  simp only [evalFloat] at h
  split at h
  · rename_i u hu; cases h; exact .val rfl (hρ _ _ hu)
  · simp at h
theorem fl_pick {c a b : Operand} (h : evalFloat P ⟨dst, .pick c a b, type, pos, after, guard⟩ ρ H id = some (v, blk)) : FRes P ρ' ⟨dst, .pick c a b, type, pos, after, guard⟩ K w id v blk := by
  simp only [evalFloat] at h
  split at h
  · rename_i hc
    split at h
    · rename_i u hu; cases h
      have hc' := hρ _ _ hc
      generalize hq : ρ' c = q at hc'; cases hc'
      exact .val (by simp [execOp, hq, asBool]) (hρ _ _ hu)
    · simp at h
  · rename_i hc
    split at h
    · rename_i u hu; cases h
      have hc' := hρ _ _ hc
      generalize hq : ρ' c = q at hc'; cases hc'
      exact .val (by simp [execOp, hq, asBool]) (hρ _ _ hu)
    · simp at h
  · simp at h

omit hρ in
theorem ptr_new {K1 : Kr} {k : Blk} {w1 : World} (h : NewB K w id k K1 w1) : VRel K1 (ptrTo id) (.pointer (some ⟨w.heap.size, 0, none⟩)) := by
  rw [← h.at_]; exact .ptr id 0 ((h.dom id).2 (.inr rfl))

omit hρ in
theorem fl_alloc {e : TypeId} (h : evalFloat P ⟨dst, .alloc e, type, pos, after, guard⟩ ρ H id = some (v, blk)) : FRes P ρ' ⟨dst, .alloc e, type, pos, after, guard⟩ K w id v blk := by
  simp only [evalFloat] at h
  split at h
  · rename_i z n hz hn
    cases h
    intro hf
    have hc : VRel K z z := .of_plain 8 z (zeroOf_plain hz)
    have hl : LRel K z.cells.toList z.cells.toList := F2_of_arr hc.cells.1 hc.cells.2
    have hn := newB_alloc (w := w) (e := e) (es := n) hf hl
    exact ⟨_, _, _, by simp [execOp, Instr.alloc, run_zeroOf hz, newVar, newRow], ptr_new hn, hn⟩
  · simp at h
theorem fl_box {e : TypeId} {x : Operand} (h : evalFloat P ⟨dst, .box e x, type, pos, after, guard⟩ ρ H id = some (v, blk)) : FRes P ρ' ⟨dst, .box e x, type, pos, after, guard⟩ K w id v blk := by
  simp only [evalFloat] at h
  split at h
  · rename_i u n hu hn
    cases h
    intro hf
    have hc := hρ _ _ hu
    have hl : LRel K u.cells.toList (ρ' x).cells.toList := F2_of_arr hc.cells.1 hc.cells.2
    have hn := newB_alloc (w := w) (e := e) (es := n) hf hl
    exact ⟨_, _, _, by simp [execOp, Instr.box, newVar, newRow], ptr_new hn, hn⟩
  · simp at h

theorem pairs_arr {ps : Array (Nat × Operand)} {l : List (Nat × Value)} (h : pairs ρ ps.toList = some l) :
    F2 (fun x y => x.1 = y.1 ∧ VRel K x.2 y.2) l (ps.map fun (i, x) => (i, ρ' x)).toList := by
  have := pairs_sound hρ h
  simpa using this

theorem fl_build {t : TypeId} {parts : Array (Nat × Operand)} (h : evalFloat P ⟨dst, .build t parts, type, pos, after, guard⟩ ρ H id = some (v, blk)) : FRes P ρ' ⟨dst, .build t parts, type, pos, after, guard⟩ K w id v blk := by
  simp only [evalFloat] at h
  split at h
  · rename_i z fields ps hz hu hp
    have hc : ARel K z.cells z.cells := (VRel.of_plain (K := K) 8 z (zeroOf_plain hz)).cells
    split at h
    · rename_i pl hpl
      split at h
      · rename_i cells hcells
        cases h
        obtain ⟨r', hr', hrel⟩ := fill_sound (pairs_arr hρ hp) hc hcells
        refine .val ?_ (.agg _ _ hrel.1 hrel.2)
        have hrun := run_places_arr hpl w
        have e : (fun (i : Nat) => (pl.toArray)[i]?) = fun (i : Nat) => pl[i]? := by funext i; simp
        simp only [execOp, Instr.build, Sem.run_bind, run_zeroOf hz, Result.andThen_ok, run_und hu, Sem.run_pure, hrun, e, hr']
      · simp at h
    · simp at h
  · rename_i z n elem ps hz hu hp
    have hc : ARel K z.cells z.cells := (VRel.of_plain (K := K) 8 z (zeroOf_plain hz)).cells
    split at h
    · rename_i size hs
      split at h
      · rename_i cells hcells
        cases h
        obtain ⟨r', hr', hrel⟩ := fill_sound (pairs_arr hρ hp) hc hcells
        refine .val ?_ (.agg _ _ hrel.1 hrel.2)
        simp only [execOp, Instr.build, Sem.run_bind, run_zeroOf hz, Result.andThen_ok, run_und hu, Sem.run_pure, run_sizeOf hs, hr']
      · simp at h
    · simp at h
  · simp at h

omit hρ in
theorem zeros_rel {z : Value} {n : Nat} (hz : plainN 8 z = true) (h0 : z.cells.size ≠ 0) :
    ARel K ((Array.range n).map (z.cells[· % z.cells.size]!)) ((Array.range n).map (z.cells[· % z.cells.size]!)) := by
  refine ⟨rfl, fun i v v' h1 h2 => ?_⟩
  rw [h1] at h2; cases h2
  have hc := (VRel.of_plain (K := K) 8 z hz).cells
  simp only [Array.getElem?_map, Option.map_eq_some_iff] at h1
  obtain ⟨j, hj, rfl⟩ := h1
  have hlt : j % z.cells.size < z.cells.size := Nat.mod_lt _ (by omega)
  have e : z.cells[j % z.cells.size]? = some z.cells[j % z.cells.size]! := by
    rw [getElem!_pos z.cells _ hlt, Array.getElem?_eq_getElem hlt]
  exact hc.2 _ _ _ e e

omit hρ in
theorem slice_new {K1 : Kr} {k : Blk} {w1 : World} (h : NewB K w id k K1 w1) {n c c' : Nat} (hc : capOK K1 id 0 c c') : VRel K1 (.slice (some ⟨id, 0, none⟩) n c) (.slice (some ⟨w.heap.size, 0, none⟩) n c') := by
  rw [← h.at_]; exact .slice id 0 n c c' ((h.dom id).2 (.inr rfl)) hc

omit hρ in
theorem cap_exact {K1 : Kr} {b o n : Nat} : capOK K1 b o (2 * n + 1) n := .inl ⟨by omega, by omega⟩

theorem fl_buildSlice {t : TypeId} {len : Nat} {parts : Array (Nat × Operand)} (h : evalFloat P ⟨dst, .buildSlice t len parts, type, pos, after, guard⟩ ρ H id = some (v, blk)) : FRes P ρ' ⟨dst, .buildSlice t len parts, type, pos, after, guard⟩ K w id v blk := by
  simp only [evalFloat] at h
  split at h
  · rename_i elem ps hu hp
    split at h
    · rename_i size z hs hz
      cases hl0 : Nat.beq len 0 with
      | true =>
        have := Nat.eq_of_beq_eq_true hl0
        subst this
        rw [hl0] at h; simp only [cond_true] at h
        split at h
        · cases h
          intro hf
          have hpl := pairs_arr hρ hp
          have hemp : (parts.map fun (i, x) => (i, ρ' x)).toList = [] := by
            cases hq : (parts.map fun (i, x) => (i, ρ' x)).toList with
            | nil => rfl
            | cons y ys => rw [hq] at hpl; cases hpl
          have hn := newB_alloc (w := w) (e := elem) (es := size) (c := []) (c' := #[]) hf (by exact .nil)
          refine ⟨_, _, _, ?_, slice_new (n := 0) hn (cap_exact (n := 0)), hn⟩
          have hm : ∀ f : Nat → Value, (Array.range 0).map f = #[] := fun f => Array.eq_empty_of_size_eq_zero (by rw [Array.size_map, Array.size_range])
          simp only [execOp, Instr.buildSlice, Sem.run_bind, Sem.run_pure, Sem.run_ite, gt_iff_lt, Result.andThen_ok, run_und hu, run_sizeOf hs, Nat.zero_mul, Nat.not_lt_zero, if_false, if_true, hm, hemp, Instr.fill, newRow, run_newObj]
          rfl
        · simp at h
      | false =>
      rw [hl0] at h; simp only [cond_false] at h
      cases hg : (Nat.ble (len * size) 4096 && Nat.blt 0 (len * size) && !(Nat.beq z.cells.size 0)) with
      | false => rw [hg] at h; simp at h
      | true =>
        rw [hg] at h
        simp only [cond_true] at h
        simp only [Bool.and_eq_true, Bool.not_eq_true'] at hg
        have hle := Nat.le_of_ble_eq_true hg.1.1
        have hpos : 0 < len * size := Nat.le_of_ble_eq_true hg.1.2
        have h0 : z.cells.size ≠ 0 := fun e => by rw [e] at hg; simp at hg
        split at h
        · rename_i cells hcells
          cases h
          intro hf
          obtain ⟨r', hr', hrel⟩ := fill_sound (pairs_arr hρ hp) (zeros_rel (K := K) (zeroOf_plain hz) h0) hcells
          have hn := newB_alloc (w := w) (e := elem) (es := size) hf hrel.list
          refine ⟨_, _, _, ?_, slice_new (n := len) hn (cap_exact (n := len)), hn⟩
          have e1 : ¬ (2 ^ 24 < len * size) := by omega
          have hls : len * size ≠ 0 := by omega
          simp only [execOp, Instr.buildSlice, Sem.run_bind, Sem.run_pure, Sem.run_ite, gt_iff_lt, Result.andThen_ok, run_und hu, run_sizeOf hs, e1, hls, if_false, run_zeroOf hz, hr', newRow, run_newObj]
          rfl
        · simp at h
    · simp at h
  · simp at h

include hR in
theorem fl_load {t : TypeId} {a : Operand} (h : evalFloat P ⟨dst, .load t a, type, pos, after, guard⟩ ρ H id = some (v, blk)) : FRes P ρ' ⟨dst, .load t a, type, pos, after, guard⟩ K w id v blk := by
  simp only [evalFloat] at h
  split at h
  · rename_i u hu
    split at h
    · rename_i r hr
      cases h
      obtain ⟨r', hrun, hrel⟩ := load_sound hR (hρ _ _ hu) hr
      exact .val (by simp [execOp, hrun]) hrel
    · simp at h
  · simp at h

theorem fl_nilCheck {x : Operand} (h : evalFloat P ⟨dst, .nilCheck x, type, pos, after, guard⟩ ρ H id = some (v, blk)) : FRes P ρ' ⟨dst, .nilCheck x, type, pos, after, guard⟩ K w id v blk := by
  simp only [evalFloat] at h
  split at h
  · rename_i a hx
    cases h
    have hc' := hρ _ _ hx
    generalize hq : ρ' x = q at hc'; cases hc' with
    | ptr b o hd => exact .val (by simp [execOp, hq]) (.ptr b o hd)
  · rename_i t u hx
    cases h
    have hc' := hρ _ _ hx
    generalize hq : ρ' x = q at hc'; cases hc' with
    | iface t hv => exact .val (by simp [execOp, hq]) (.iface t hv)
  · rename_i f a b hx
    cases h
    have hc' := hρ _ _ hx
    generalize hq : ρ' x = q at hc'; cases hc' with
    | func fn a a' b b' h1 h2 h3 h4 => exact .val (by simp [execOp, hq]) (.func _ a a' b b' h1 h2 h3 h4)
  · simp at h
end
end Go.Eng
