/- PART OF A PROOF over the given program: EngC. See the last text of the claim for the statement. -/
import Derived.Test.YtmbgnmnaonjdgaaGreatDoorEngB
import Derived.Laws.Cells
import Derived.Laws.Append
import Derived.Laws.AppendOwn
import Derived.Laws.Strings
namespace Go.Eng
open Go

section
variable {P : Program} {G : List Nat} {K : Kr} {w : World} {h : Nat → Blk} {H : AH}

theorem run_und {t : TypeId} {d : TypeDesc} (h : und P t = some d) (w : World) : (underlying t).run P w = .ok d w := by
  have : P.underlying t = some d := h
  simp [underlying, this]
theorem info_of_szOf {t : TypeId} {n : Nat} (h : szOf P t = some n) : ∃ i, P.info? t = some i ∧ i.size = n := by
  unfold szOf at h
  split at h
  · rename_i i hi; exact ⟨i, hi, by simpa using h⟩
  · simp at h
theorem run_typeInfo {t : TypeId} {i : TypeInfo} (h : P.info? t = some i) (w : World) : (typeInfo t).run P w = .ok i w := by
  simp [typeInfo, h]
theorem run_sizeOf {t : TypeId} {n : Nat} (h : szOf P t = some n) (w : World) : (sizeOf t).run P w = .ok n w := by
  obtain ⟨i, hi, hs⟩ := info_of_szOf h
  simp [sizeOf, run_typeInfo hi, hs]
theorem run_zero {t : TypeId} {i : TypeInfo} {z : Value} (h : P.info? t = some i) (hz : i.zero = some z) (w : World) : (zeroValue t).run P w = .ok z w := by
  simp [zeroValue, run_typeInfo h, hz]
theorem run_zeroOf {t : TypeId} {z : Value} (h : zeroOf P t = some z) (w : World) : (zeroValue t).run P w = .ok z w := by
  unfold zeroOf at h
  split at h
  · rename_i i hi
    split at h
    · rename_i z' hz
      cases hp : plainV z' <;> rw [hp] at h <;> simp at h
      subst h; exact run_zero hi hz w
    · simp at h
  · simp at h
theorem zeroOf_plain {t : TypeId} {z : Value} (h : zeroOf P t = some z) : plainN 8 z = true := by
  unfold zeroOf at h
  split at h
  · split at h
    · rename_i z' hz
      cases hp : plainV z' <;> rw [hp] at h <;> simp at h
      subst h; exact hp
    · simp at h
  · simp at h
theorem run_isAgg {t : TypeId} {d : TypeDesc} (h : und P t = some d) (w : World) : (isAgg t).run P w = .ok (isAggT d) w := by
  simp only [isAgg, Sem.run_bind, run_und h, Result.andThen_ok]
  cases d <;> rfl

/-! ### reading -/
theorem Rel.read (hR : Rel G K h w) {b : Nat} {c : List Value} {e es : Nat} {rw : Bool} (hb : h b = .cells c e es rw) :
    K.dom b ∧ es = K.es b ∧ (rw = false → K.ρ b = b) ∧ ∃ c' fr, w.heap[K.ρ b]? = some (.cells c' e fr) ∧ c'.size = K.sz b ∧ c.length ≤ c'.size ∧
      (∀ (i : Nat) (v : Value), c[i]? = some v → ∃ v', c'[i]? = some v' ∧ VRel K v v') ∧ (rw = true → fr.1 = fr.2 ∨ c'.size ≤ fr.1) := by
  have := hR.blk b; rw [hb] at this; exact this

theorem takeCells_spec {l r : List Value} {o n : Nat} (h : takeCells l o n = some r) : r = (l.drop o).take n ∧ r.length = n := by
  unfold takeCells at h
  simp only at h
  cases hb : Nat.beq ((l.drop o).take n).length n with
  | false => rw [hb] at h; simp at h
  | true =>
    rw [hb] at h
    simp only [cond_true, Option.some.injEq] at h
    exact ⟨h.symm, by rw [← h]; exact Nat.eq_of_beq_eq_true hb⟩

theorem takeCells_get {l r : List Value} {o n : Nat} (h : takeCells l o n = some r) (i : Nat) (hi : i < n) : l[o + i]? = r[i]? := by
  obtain ⟨rfl, _⟩ := takeCells_spec h
  rw [List.getElem?_take, if_pos hi, List.getElem?_drop]

theorem addr_add (b o n : Nat) : (⟨b, o, none⟩ : Addr).add n = ⟨b, o + n, none⟩ := by
  unfold Addr.add
  by_cases h : n = 0
  · simp [h]
  · simp [h]

theorem cell_at {g : Nat} {c : Array Value} {t : TypeId} {fr : Nat × Nat} (h : w.heap[g]? = some (.cells c t fr)) (i : Nat) : w.cell? ⟨g, i, none⟩ = c[i]? := by
  simp [World.cell?, h]
theorem frozen_at {g : Nat} {c : Array Value} {t : TypeId} {fr : Nat × Nat} (h : w.heap[g]? = some (.cells c t fr)) (i : Nat) (hf : ¬ (fr.1 ≤ i ∧ i < fr.2)) : w.frozen? ⟨g, i, none⟩ = false := by
  obtain ⟨lo, hi⟩ := fr
  simp only [World.frozen?, h]
  simp only [Bool.and_eq_false_iff, decide_eq_false_iff_not]
  simp only at hf
  omega

/-- what is read of an abstract block is there. -/
theorem read_cells (hR : Rel G K H.get w) {b o n : Nat} {l : List Value} (h : AH.read H b o n = some l) :
    K.dom b ∧ ∃ l' : List Value, l'.length = n ∧ LRel K l l' ∧ ∀ (j : Nat) (v : Value), l'[j]? = some v → w.cell? ((⟨K.ρ b, o, none⟩ : Addr).add j) = some v := by
  unfold AH.read at h
  split at h
  · rename_i c e es rw hb
    obtain ⟨hd, _, _, c', fr, hh, _, hle, hv, _⟩ := hR.read hb
    obtain ⟨rfl, hlen⟩ := takeCells_spec h
    refine ⟨hd, (c'.toList.drop o).take n, ?_, ?_, ?_⟩
    · rw [List.length_take, List.length_drop] at hlen ⊢
      have : c'.toList.length = c'.size := by simp
      omega
    · refine F2.of_get ?_ fun i v v' h1 h2 => ?_
      · rw [List.length_take, List.length_drop] at hlen ⊢
        rw [List.length_take, List.length_drop]
        have : c'.toList.length = c'.size := by simp
        omega
      · rw [List.getElem?_take] at h1 h2
        split at h1
        · rename_i hi
          rw [if_pos hi, List.getElem?_drop] at h2
          rw [List.getElem?_drop] at h1
          obtain ⟨u, hu, hr⟩ := hv _ _ h1
          simp at h2
          rw [hu] at h2
          exact Option.some.inj h2 ▸ hr
        · simp at h1
    · intro j v hj
      rw [addr_add, cell_at hh]
      rw [List.getElem?_take] at hj
      split at hj
      · rw [List.getElem?_drop] at hj; simpa using hj
      · simp at hj
  · simp at h

theorem load_sound (hR : Rel G K H.get w) {t : TypeId} {v v' r : Value} (hv : VRel K v v') (h : loadA P H t v = some r) :
    ∃ r', (Instr.loadAt t v').run P w = .ok r' w ∧ VRel K r r' := by
  unfold loadA at h
  split at h
  · rename_i b o
    cases hv with
    | ptr b o hd =>
    split at h
    · rename_i d n hd' hn
      cases hag : isAggT d with
      | true =>
        rw [hag] at h
        simp only [cond_true, Option.map_eq_some_iff] at h
        obtain ⟨l, hl, rfl⟩ := h
        obtain ⟨_, l', hlen, hrel, hc⟩ := read_cells hR hl
        have hrun := run_loadCells_list (P := P) w ⟨K.ρ b, o, none⟩ l' hc
        rw [hlen] at hrun
        refine ⟨.agg l'.toArray, ?_, ?_⟩
        · simp [Instr.loadAt, Instr.sureAddr, loadVar, run_isAgg hd', hag, run_sizeOf hn, hrun]
        · obtain ⟨hs, he⟩ := arr_of_F2 (K := K) (a := ⟨l⟩) (a' := l'.toArray) (by simpa using hrel)
          exact .agg _ _ hs he
      | false =>
        rw [hag] at h
        simp only [cond_false] at h
        split at h
        · rename_i u hu
          obtain ⟨_, l', hlen, hrel, hc⟩ := read_cells hR hu
          simp only [Option.some.injEq] at h; subst h
          obtain ⟨u', hu', hr⟩ := hrel.get 0 u rfl
          have := hc 0 u' hu'
          rw [addr_add, Nat.add_zero] at this
          refine ⟨u', ?_, hr⟩
          simp [Instr.loadAt, Instr.sureAddr, loadVar, run_isAgg hd', hag, this]
        · simp at h
    · simp at h
  · simp at h

/-! ### building -/
theorem fold_set (off : Nat) : ∀ (l : List Value) (k : Nat) (cs : Array Value), off + k + l.length ≤ cs.size →
    ((l.zipIdx k).foldl (fun (cs : Array Value) (x : Value × Nat) => cs.setIfInBounds (off + x.2) x.1) cs).size = cs.size ∧
    ∀ i, ((l.zipIdx k).foldl (fun (cs : Array Value) (x : Value × Nat) => cs.setIfInBounds (off + x.2) x.1) cs)[i]? =
      if off + k ≤ i ∧ i < off + k + l.length then l[i - (off + k)]? else cs[i]? := by
  intro l
  induction l with
  | nil => intro k cs _; exact ⟨rfl, fun i => by simp; intro h1 h2; omega⟩
  | cons x l ih =>
    intro k cs hle
    simp only [List.length_cons] at hle
    obtain ⟨h1, h2⟩ := ih (k + 1) (cs.setIfInBounds (off + k) x) (by simp; omega)
    simp only [List.zipIdx_cons, List.foldl_cons]
    refine ⟨by rw [h1]; simp, fun i => ?_⟩
    rw [h2 i]
    by_cases hi : i = off + k
    · subst hi
      have e1 : ¬ (off + (k + 1) ≤ off + k ∧ off + k < off + (k + 1) + l.length) := by omega
      have e2 : off + k ≤ off + k ∧ off + k < off + k + (x :: l).length := by simp
      rw [if_neg e1, if_pos e2]
      simp only [Nat.sub_self, List.getElem?_cons_zero]
      rw [Array.getElem?_setIfInBounds_self_of_lt (by omega)]
    · have hne : off + k ≠ i := fun e => hi e.symm
      by_cases hc : off + k + 1 ≤ i ∧ i < off + k + 1 + l.length
      · have e1 : off + (k + 1) ≤ i ∧ i < off + (k + 1) + l.length := by omega
        have e2 : off + k ≤ i ∧ i < off + k + (x :: l).length := by simp; omega
        rw [if_pos e1, if_pos e2]
        have : i - (off + k) = (i - (off + (k + 1))) + 1 := by omega
        rw [this, List.getElem?_cons_succ]
      · have e1 : ¬ (off + (k + 1) ≤ i ∧ i < off + (k + 1) + l.length) := by omega
        have e2 : ¬ (off + k ≤ i ∧ i < off + k + (x :: l).length) := by simp; omega
        rw [if_neg e1, if_neg e2, Array.getElem?_setIfInBounds_ne hne]

def fillStep (off : Nat) (v : Value) (cells : Array Value) : Array Value := v.cells.zipIdx.foldl (fun cs (c, j) => cs.setIfInBounds (off + j) c) cells

theorem fillStep_spec (off : Nat) (v : Value) (cs : Array Value) (h : off + v.cells.size ≤ cs.size) :
    (fillStep off v cs).size = cs.size ∧ ∀ i, (fillStep off v cs)[i]? = if off ≤ i ∧ i < off + v.cells.size then v.cells[i - off]? else cs[i]? := by
  have := fold_set off v.cells.toList 0 cs (by simpa using h)
  have e : fillStep off v cs = (v.cells.toList.zipIdx 0).foldl (fun (cs : Array Value) (x : Value × Nat) => cs.setIfInBounds (off + x.2) x.1) cs := by
    unfold fillStep
    rw [← Array.foldl_toList, Array.toList_zipIdx]
  rw [e]
  simpa using this

theorem VRel.cells {v v' : Value} (h : VRel K v v') : v.cells.size = v'.cells.size ∧ ∀ (i : Nat) (x x' : Value), v.cells[i]? = some x → v'.cells[i]? = some x' → VRel K x x' := by
  have one : ∀ {v v' : Value}, VRel K v v' → v.cells = #[v] → v'.cells = #[v'] → v.cells.size = v'.cells.size ∧ ∀ (i : Nat) (x x' : Value), v.cells[i]? = some x → v'.cells[i]? = some x' → VRel K x x' := by
    intro v v' h e e'
    rw [e, e']
    refine ⟨rfl, fun i x x' h1 h2 => ?_⟩
    cases i with
    | zero => simp at h1 h2; subst h1 h2; exact h
    | succ i => simp at h1
  cases h with
  | agg a a' hs hh => exact ⟨hs, hh⟩
  | bool => exact one (.bool _) rfl rfl
  | int => exact one (.int _ _) rfl rfl
  | float => exact one (.float _ _) rfl rfl
  | complex => exact one (.complex _ _ _) rfl rfl
  | string => exact one (.string _) rfl rfl
  | ptrN => exact one .ptrN rfl rfl
  | ptr b o h => exact one (.ptr b o h) rfl rfl
  | sliceN c h => exact one (.sliceN c h) rfl rfl
  | slice b o n c c' h h' => exact one (.slice b o n c c' h h') rfl rfl
  | mapN => exact one .mapN rfl rfl
  | map b h => exact one (.map b h) rfl rfl
  | chanN => exact one .chanN rfl rfl
  | nilFunc => exact one .nilFunc rfl rfl
  | nilIface => exact one .nilIface rfl rfl
  | func fn a a' b b' h1 h2 h3 h4 => exact one (.func fn a a' b b' h1 h2 h3 h4) rfl rfl
  | iface t h => exact one (.iface t h) rfl rfl
  | tuple a a' h1 h2 => exact one (.tuple a a' h1 h2) rfl rfl

def ARel (K : Kr) (a a' : Array Value) : Prop := a.size = a'.size ∧ ∀ (i : Nat) (v v' : Value), a[i]? = some v → a'[i]? = some v' → VRel K v v'
theorem ARel.list {a a' : Array Value} (h : ARel K a a') : LRel K a.toList a'.toList := F2_of_arr h.1 h.2
theorem ARel.of_list {a a' : Array Value} (h : LRel K a.toList a'.toList) : ARel K a a' := arr_of_F2 h
theorem ARel.of_plain {a : Array Value} {n : Nat} (h : a.toList.all (plainN n) = true) : ARel K a a :=
  ⟨rfl, fun i v v' h1 h2 => by
    rw [h1] at h2; cases h2
    exact .of_plain n v (List.all_eq_true.1 h v (by rw [← Array.getElem?_toList] at h1; exact List.mem_of_getElem? h1))⟩

theorem fill_sound {place : Nat → Option (Nat × Nat)} : ∀ {ps ps' : List (Nat × Value)} {cs cs' r : Array Value}, F2 (fun x y => x.1 = y.1 ∧ VRel K x.2 y.2) ps ps' →
    ARel K cs cs' → Instr.fill place cs ps = some r → ∃ r', Instr.fill place cs' ps' = some r' ∧ ARel K r r'
  | _, _, cs, cs', r, .nil, hc, h => by simp only [Instr.fill, Option.some.injEq] at h ⊢; subst h; exact ⟨_, rfl, hc⟩
  | _, _, cs, cs', r, .cons (x := (i, v)) (y := (i', v')) ⟨hi, hv⟩ t, hc, h => by
    simp only at hi hv; subst hi
    simp only [Instr.fill] at h ⊢
    cases hp : place i with
    | none => rw [hp] at h; simp at h
    | some os =>
      obtain ⟨off, size⟩ := os
      rw [hp] at h
      simp only at h ⊢
      obtain ⟨hsz, hcell⟩ := hv.cells
      rw [← hsz, ← hc.1]
      by_cases hbad : (decide (v.cells.size ≠ size) || decide (off + v.cells.size > cs.size)) = true
      · rw [if_pos hbad] at h; simp at h
      · rw [if_neg hbad] at h
        rw [if_neg hbad]
        simp only [Bool.or_eq_true, decide_eq_true_eq, not_or, Nat.not_lt] at hbad
        have s1 := fillStep_spec off v cs (by omega)
        have s2 := fillStep_spec off v' cs' (by rw [← hsz, ← hc.1]; omega)
        refine fill_sound t ?_ h
        change ARel K (fillStep off v cs) (fillStep off v' cs')
        refine ⟨by rw [s1.1, s2.1]; exact hc.1, fun j x x' h1 h2 => ?_⟩
        rw [s1.2] at h1; rw [s2.2, ← hsz] at h2
        by_cases hj : off ≤ j ∧ j < off + v.cells.size
        · rw [if_pos hj] at h1 h2; exact hcell _ _ _ h1 h2
        · rw [if_neg hj] at h1 h2; exact hc.2 _ _ _ h1 h2

def RhoRel (K : Kr) (ρ : Operand → Option Value) (ρ' : Operand → Value) : Prop := ∀ x v, ρ x = some v → VRel K v (ρ' x)

theorem pairs_sound {ρ : Operand → Option Value} {ρ' : Operand → Value} (hρ : RhoRel K ρ ρ') : ∀ {l : List (Nat × Operand)} {ps : List (Nat × Value)}, pairs ρ l = some ps →
    F2 (fun x y => x.1 = y.1 ∧ VRel K x.2 y.2) ps (l.map fun x => (x.1, ρ' x.2))
  | [], ps, h => by simp only [pairs, Option.some.injEq] at h; subst h; exact .nil
  | (i, x) :: l, ps, h => by
    simp only [pairs] at h
    split at h
    · rename_i v r hv hr
      simp only [Option.some.injEq] at h; subst h
      exact .cons ⟨rfl, hρ _ _ hv⟩ (pairs_sound hρ hr)
    · simp at h
theorem vals_sound {ρ : Operand → Option Value} {ρ' : Operand → Value} (hρ : RhoRel K ρ ρ') : ∀ {l : List Operand} {ps : List Value}, vals ρ l = some ps → LRel K ps (l.map ρ')
  | [], ps, h => by simp only [vals, Option.some.injEq] at h; subst h; exact .nil
  | x :: l, ps, h => by
    simp only [vals] at h
    split at h
    · rename_i v r hv hr
      simp only [Option.some.injEq] at h; subst h
      exact .cons (hρ _ _ hv) (vals_sound hρ hr)
    · simp at h

theorem run_places : ∀ {fs : List Field} {pl : List (Nat × Nat)}, places P fs = some pl → ∀ w, (fs.mapM fun f => do pure (f.offset, ← sizeOf f.type) : Sem (List (Nat × Nat))).run P w = .ok pl w
  | [], pl, h, w => by simp only [places, Option.some.injEq] at h; subst h; simp [List.mapM_nil]
  | f :: fs, pl, h, w => by
    simp only [places] at h
    split at h
    · rename_i n r hn hr
      simp only [Option.some.injEq] at h; subst h
      have ih := run_places hr w
      simp only [List.mapM_cons, Sem.run_bind, run_sizeOf hn, Result.andThen_ok, Sem.run_pure, ih]
    · simp at h
theorem run_places_arr {fs : Array Field} {pl : List (Nat × Nat)} (h : places P fs.toList = some pl) (w : World) :
    (fs.mapM fun f => do pure (f.offset, ← sizeOf f.type) : Sem (Array (Nat × Nat))).run P w = .ok pl.toArray w := by
  rw [Array.mapM_eq_mapM_toList]
  simp only [Sem.run_map, run_places h w, Result.andThen_ok]

theorem pureP_run {α : Type} {s : Sem α} {a : α} : pureP P s = some a → ∀ w, s.run P w = .ok a w := by
  induction s with
  | pure b => intro h w; simp only [pureP, Option.some.injEq] at h; subst h; rfl
  | program k ih => intro h w; simp only [pureP] at h; simp only [Sem.run]; exact ih P h w
  | _ => intro h; simp [pureP] at h

theorem strEq_iff (a b : ByteArray) : strEq a b = (a.toList == b.toList) := by
  unfold strEq
  rw [Bool.eq_iff_iff, decide_eq_true_iff, beq_iff_eq, Go.ByteArray.toList_eq, Go.ByteArray.toList_eq]
  constructor
  · intro h
    have key : ∀ l : List UInt8, (l.map (·.toNat)).map UInt8.ofNat = l := fun l => by
      rw [List.map_map]
      refine (List.map_congr_left fun x _ => ?_).trans (List.map_id l)
      simp
    rw [← key a.data.toList, h, key]
  · intro h; rw [h]

/-! ### new blocks -/
structure NewB (K : Kr) (w : World) (id : Nat) (k : Blk) (K1 : Kr) (w1 : World) : Prop where
  le : K.le K1
  dom : ∀ b, K1.dom b ↔ (K.dom b ∨ b = id)
  at_ : K1.ρ id = w.heap.size
  os : w1.os = w.os
  tape : w1.tape = w.tape
  output : w1.output = w.output
  size : w1.heap.size = w.heap.size + 1
  old : ∀ r, r < w.heap.size → w1.heap[r]? = w.heap[r]?
  blk : BRel K1 id w1 k
  rw : isRW k

def Kr.put (K : Kr) (id real sz es : Nat) : Kr where
  dom b := K.dom b ∨ b = id
  ρ b := if b = id then real else K.ρ b
  sz b := if b = id then sz else K.sz b
  es b := if b = id then es else K.es b
theorem Kr.put_le (K : Kr) {id : Nat} (real sz es : Nat) (h : ¬ K.dom id) : K.le (K.put id real sz es) := fun b hb => by
  have : b ≠ id := fun e => h (e ▸ hb)
  simp [Kr.put, hb, this]

theorem BRel.old {K K1 : Kr} (hK : K.le K1) {b : Nat} {w w1 : World} {k : Blk} (h : BRel K b w k) (hw : ∀ r, K.ρ b = r → r < w.heap.size → w1.heap[r]? = w.heap[r]?) : BRel K1 b w1 k := by
  cases k with
  | dead => trivial
  | cells c e es rw =>
    obtain ⟨hd, hes, hro, c', fr, hh, hsz, hle, hv, hf⟩ := h
    obtain ⟨d1, r1, s1, e1⟩ := hK b hd
    have hlt : K.ρ b < w.heap.size := by
      rcases Nat.lt_or_ge (K.ρ b) w.heap.size with h' | h'
      · exact h'
      · simp [Array.getElem?_eq_none h'] at hh
    refine ⟨d1, hes.trans e1.symm, fun h => r1.trans (hro h), c', fr, ?_, hsz.trans s1.symm, hle, fun i v hi => ?_, hf⟩
    · rw [r1, hw _ rfl hlt]; exact hh
    · obtain ⟨v', hv', hr⟩ := hv i v hi
      exact ⟨v', hv', hr.mono hK⟩
  | map es clock =>
    obtain ⟨hd, he, hc, hh⟩ := h
    obtain ⟨d1, r1, s1, e1⟩ := hK b hd
    have hlt : K.ρ b < w.heap.size := by
      rcases Nat.lt_or_ge (K.ρ b) w.heap.size with h' | h'
      · exact h'
      · simp [Array.getElem?_eq_none h'] at hh
    exact ⟨d1, he, hc, by rw [r1, hw _ rfl hlt]; exact hh⟩

theorem BRel.lt {K : Kr} {b : Nat} {w : World} {k : Blk} (h : BRel K b w k) (hl : live k) : K.ρ b < w.heap.size ∧ K.dom b := by
  have key : ∀ {o : Obj}, w.heap[K.ρ b]? = some o → K.ρ b < w.heap.size := fun hh => by
    rcases Nat.lt_or_ge (K.ρ b) w.heap.size with h' | h'
    · exact h'
    · simp [Array.getElem?_eq_none h'] at hh
  cases k with
  | dead => exact hl.elim
  | cells c e es rw => obtain ⟨hd, _, _, c', fr, hh, _⟩ := h; exact ⟨key hh, hd⟩
  | map es clock => obtain ⟨hd, _, _, hh⟩ := h; exact ⟨key hh, hd⟩

/-- a new block beside what is there. -/
theorem NewB.rel {id : Nat} {k : Blk} {K1 : Kr} {w1 : World} (hR : Rel G K h w) (hn : NewB K w id k K1 w1) (hf : ¬ K.dom id) :
    Rel G K1 (fun b => if b = id then k else h b) w1 ∧ Ext K h w K1 (fun b => if b = id then k else h b) w1 := by
  have hρ : ∀ b, live (h b) → b ≠ id ∧ K1.ρ b = K.ρ b ∧ K.ρ b < w.heap.size := fun b hb => by
    obtain ⟨h1, h2⟩ := (hR.blk b).lt hb
    exact ⟨fun e => hf (e ▸ h2), (hn.le b h2).2.1, h1⟩
  refine ⟨⟨fun b => ?_, fun b b' hb hb' e => ?_, fun g hg => ?_⟩, ⟨hn.le, by rw [hn.size]; omega, hn.os, hn.tape, hn.output, fun r hr _ => hn.old r hr, fun b hb => ?_, fun b hb => ?_⟩⟩
  · by_cases hb : b = id
    · subst hb; simpa using hn.blk
    · simp only [hb, if_false]
      exact (hR.blk b).old hn.le fun r _ hr => hn.old r hr
  · by_cases h1 : b = id <;> by_cases h2 : b' = id <;> simp only [h1, h2, if_true, if_false] at hb hb'
    · rw [h1, h2]
    · obtain ⟨_, e2, e3⟩ := hρ b' hb'
      rw [h1, hn.at_, e2] at e; omega
    · obtain ⟨_, e2, e3⟩ := hρ b hb
      rw [h2, hn.at_, e2] at e; omega
    · rw [(hρ b hb).2.1, (hρ b' hb').2.1] at e
      exact hR.inj b b' hb hb' e
  · obtain ⟨d, r⟩ := hR.glob g hg
    obtain ⟨d', r', _⟩ := hn.le g d
    exact ⟨d', r'.trans r⟩
  · by_cases h1 : b = id
    · subst h1; exact .inr (by rw [hn.at_]; exact Nat.le_refl _)
    · simp only [h1, if_false] at hb
      exact .inl ⟨b, hb, (hρ b hb).2.1.symm⟩
  · by_cases h1 : b = id
    · subst h1; exact .inr (by rw [hn.at_]; exact Nat.le_refl _)
    · simp only [h1, if_false] at hb
      exact .inl ⟨b, hb, (hρ b (live_of_isRW hb)).2.1.symm⟩

theorem heap_push_new (w : World) (o : Obj) : (w.alloc o).heap[w.heap.size]? = some o := by
  show (w.heap.push o)[w.heap.size]? = _
  rw [Array.getElem?_push, if_pos rfl]

/-- a new row of cells. -/
theorem newB_cells {id : Nat} {c : List Value} {c' : Array Value} {e es n : Nat} {fr : Nat × Nat} {w1 : World} (hf : ¬ K.dom id)
    (hos : w1.os = w.os) (htp : w1.tape = w.tape) (hout : w1.output = w.output) (hsz : w1.heap.size = w.heap.size + 1) (hold : ∀ r, r < w.heap.size → w1.heap[r]? = w.heap[r]?)
    (hnew : w1.heap[w.heap.size]? = some (.cells c' e fr)) (hn : c'.size = n) (hle : c.length ≤ c'.size)
    (hv : ∀ (i : Nat) (v : Value), c[i]? = some v → ∃ v', c'[i]? = some v' ∧ VRel K v v') (hfr : fr.1 = fr.2 ∨ c'.size ≤ fr.1) :
    NewB K w id (.cells c e es true) (K.put id w.heap.size n es) w1 := by
  refine ⟨K.put_le _ _ _ hf, fun b => Iff.rfl, by simp [Kr.put], hos, htp, hout, hsz, hold, ⟨.inr rfl, by simp [Kr.put], (by intro h; cases h), c', fr, ?_, by simp [Kr.put, hn], hle, fun i v hi => ?_, fun _ => hfr⟩, trivial⟩
  · simp [Kr.put, hnew]
  · obtain ⟨v', h1, h2⟩ := hv i v hi
    exact ⟨v', h1, h2.mono (K.put_le _ _ _ hf)⟩

theorem newB_alloc {id : Nat} {c : List Value} {c' : Array Value} {e es : Nat} (hf : ¬ K.dom id) (h : LRel K c c'.toList) :
    NewB K w id (.cells c e es true) (K.put id w.heap.size c'.size es) (w.alloc (.cells c' e)) := by
  refine newB_cells (fr := (0, 0)) hf rfl rfl rfl (by simp) (fun r hr => ?_) (heap_push_new w _) rfl (by rw [h.length]; simp) (fun i v hi => ?_) (.inl rfl)
  · show (w.heap.push _)[r]? = _
    rw [Array.getElem?_push, if_neg (by omega)]
  · obtain ⟨v', h1, h2⟩ := h.get i v hi
    exact ⟨v', by simpa using h1, h2⟩
end
end Go.Eng
