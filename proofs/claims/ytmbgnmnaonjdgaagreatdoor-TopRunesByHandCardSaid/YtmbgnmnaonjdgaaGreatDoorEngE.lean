/- PART OF A PROOF over the given program: EngE. See the last text of the claim for the statement. -/
import Derived.Test.YtmbgnmnaonjdgaaGreatDoorEngD
import Derived.Laws.Concat
import Derived.IntWalk
namespace Go.Eng
open Go

section
variable {P : Program} {G : List Nat} {K : Kr} {w : World} {H : AH} {ρ : Operand → Option Value} {ρ' : Operand → Value}
variable (hρ : RhoRel K ρ ρ') (hR : Rel G K H.get w)
variable {dst : Option Tmp} {type : TypeId} {pos : String} {after : Array Edge} {guard : Option (Nat × Bool)} {id : Nat} {v : Value} {blk : Option Blk}

theorem run_eqGuard_other {op : BinOp} {t : TypeId} {x y : Operand} {a b : Value} (h : ¬ (a = .nilIface ∧ b = .nilIface)) (h2 : ∀ c d, ¬ (a = .agg c ∧ b = .agg d)) (w : World) : (eqGuard op t x y a b).run P w = .ok () w := by
  unfold eqGuard
  cases a <;> cases b <;> simp_all <;> cases op <;> rfl

theorem eqA_sound {d : TypeDesc} {t : TypeId} {a b a' b' : Value} {r : Bool} (hd : und P t = some d) (ha : VRel K a a') (hb : VRel K b b') (h : eqA d a b = some r) :
    (Op.equal t a' b').run P w = .ok r w ∧ ¬ (a' = .nilIface ∧ b' = .nilIface) ∧ (∀ c d, ¬ (a' = .agg c ∧ b' = .agg d)) ∧ (∀ k n, a' ≠ .int k n) ∧ (∀ s, a' ≠ .string s) ∧ (∀ k b, a' ≠ .float k b) ∧ (∀ k x y, a' ≠ .complex k x y) := by
  have hu := fun w => run_und (P := P) hd w
  have key : ∀ n : Nat, (Op.equalIn (n + 1) t a' b').run P w = .ok r w ∧ ¬ (a' = .nilIface ∧ b' = .nilIface) ∧ (∀ c d, ¬ (a' = .agg c ∧ b' = .agg d)) ∧ (∀ k n, a' ≠ .int k n) ∧ (∀ s, a' ≠ .string s) ∧ (∀ k b, a' ≠ .float k b) ∧ (∀ k x y, a' ≠ .complex k x y) := by
    intro n
    unfold eqA at h
    split at h <;> simp only [Option.some.injEq, reduceCtorEq] at h <;> subst h <;> cases ha <;> cases hb <;>
      refine ⟨?_, by simp, by simp, by simp, by simp, by simp, by simp⟩ <;>
      simp [Op.equalIn, hu]
  exact key 9999

theorem equal_nil {t : TypeId} {ms : Array (String × TypeId)} (hd : und P t = some (.interface ms)) : (Op.equal t .nilIface .nilIface).run P w = .ok true w := by
  have hu := fun w => run_und (P := P) hd w
  have key : ∀ n : Nat, (Op.equalIn (n + 1) t .nilIface .nilIface).run P w = .ok true w := fun n => by simp [Op.equalIn, hu]
  exact key 9999

theorem eqA_nil {d : TypeDesc} {a b : Value} {r : Bool} (h : eqA d a b = some r) : ¬ (∃ k n k' m, a = .int k n ∧ b = .int k' m) := by
  rintro ⟨k, n, k', m, rfl, rfl⟩
  unfold eqA at h
  split at h <;> simp_all

theorem binOp_eql {t : TypeId} {a b : Value} {r : Bool} (he : (Op.equal t a b).run P w = .ok r w) (h1 : ∀ k n, a ≠ .int k n) (h2 : ∀ s, a ≠ .string s) (h3 : ∀ k b, a ≠ .float k b) (h4 : ∀ k x y, a ≠ .complex k x y) :
    (binOp .eql t a b).run P w = .ok (.bool r) w ∧ (binOp .neq t a b).run P w = .ok (.bool !r) w := by
  cases a <;> simp_all [binOp]

include hρ in
theorem fl_binOp {op : BinOp} {t yt : TypeId} {x y : Operand} (h : evalFloat P ⟨dst, .binOp op t x y yt, type, pos, after, guard⟩ ρ H id = some (v, blk)) :
    FRes P ρ' ⟨dst, .binOp op t x y yt, type, pos, after, guard⟩ K w id v blk := by
  simp only [evalFloat] at h
  split at h
  · rename_i a b hx hy
    have hx' := hρ _ _ hx; have hy' := hρ _ _ hy
    generalize hqx : ρ' x = qx at hx'; generalize hqy : ρ' y = qy at hy'
    cases hx'; cases hy'
    split at h
    · cases h
      refine .val ?_ (.bool _)
      simp [execOp, hqx, hqy, binOp, Op.stringOp, eqGuard, strEq_iff]
    · cases h
      refine .val ?_ (.bool _)
      simp [execOp, hqx, hqy, binOp, Op.stringOp, eqGuard, strEq_iff]
    · cases hb : Nat.ble (a.size + b.size) 1000000 <;> rw [hb] at h <;> simp at h
      obtain ⟨rfl, rfl⟩ := h
      have := Nat.le_of_ble_eq_true hb
      refine .val ?_ (.string _)
      have hs := run_string_add_sum (P := P) (w := w) a b (by omega)
      simp [execOp, hqx, hqy, binOp, eqGuard, hs]
    · simp at h
  · rename_i hx hy
    have hx' := hρ _ _ hx; have hy' := hρ _ _ hy
    generalize hqx : ρ' x = qx at hx'; generalize hqy : ρ' y = qy at hy'
    cases hx'; cases hy'
    cases hc : (isConstOp x || isConstOp y) with
    | false => rw [hc] at h; simp at h
    | true =>
      rw [hc] at h
      simp only [cond_true] at h
      have hg : ∀ op, (eqGuard op t x y .nilIface .nilIface).run P w = .ok () w := by
        intro op
        unfold eqGuard
        cases op <;> simp <;> (cases x <;> cases y <;> simp_all [isConstOp])
      split at h
      · rename_i ms hd
        cases h
        refine .val ?_ (.bool _)
        have he := binOp_eql (P := P) (w := w) (equal_nil hd) (by simp) (by simp) (by simp) (by simp)
        simp only [execOp, hqx, hqy, Sem.run_bind, hg, Result.andThen_ok, he.1, Sem.run_pure]
      · rename_i ms hd
        cases h
        refine .val ?_ (.bool _)
        have he := binOp_eql (P := P) (w := w) (equal_nil hd) (by simp) (by simp) (by simp) (by simp)
        simp only [execOp, hqx, hqy, Sem.run_bind, hg, Result.andThen_ok, he.2, Sem.run_pure]
        rfl
      · simp at h
  · rename_i k n k' m hx hy
    have hx' := hρ _ _ hx; have hy' := hρ _ _ hy
    generalize hqx : ρ' x = qx at hx'; generalize hqy : ρ' y = qy at hy'
    cases hx'; cases hy'
    split at h
    · rename_i u hu
      cases hp : plainV u <;> rw [hp] at h <;> simp at h
      obtain ⟨rfl, rfl⟩ := h
      refine .val ?_ (.of_plain 8 _ hp)
      have := pureP_run hu w
      simp only [execOp, hqx, hqy, Sem.run_bind, run_eqGuard_other (P := P) (op := op) (t := t) (x := x) (y := y) (a := .int k n) (b := .int k' m) (by simp) (by simp) w, Result.andThen_ok, this, Sem.run_pure]
    · simp at h
  · rename_i a b _ _ _ hx hy
    have hx' := hρ _ _ hx; have hy' := hρ _ _ hy
    split at h
    · rename_i d hd
      split at h
      · rename_i r hr
        cases h
        obtain ⟨he, g1, g2, g3, g4, g5, g6⟩ := eqA_sound (w := w) hd hx' hy' hr
        refine .val ?_ (.bool _)
        simp only [execOp, Sem.run_bind, run_eqGuard_other (P := P) (op := .eql) (t := t) (x := x) (y := y) g1 g2 w, Result.andThen_ok, (binOp_eql he g3 g4 g5 g6).1, Sem.run_pure]
      · simp at h
    · rename_i d hd
      split at h
      · rename_i r hr
        cases h
        obtain ⟨he, g1, g2, g3, g4, g5, g6⟩ := eqA_sound (w := w) hd hx' hy' hr
        refine .val ?_ (.bool _)
        simp only [execOp, Sem.run_bind, run_eqGuard_other (P := P) (op := .neq) (t := t) (x := x) (y := y) g1 g2 w, Result.andThen_ok, (binOp_eql he g3 g4 g5 g6).2, Sem.run_pure]
      · simp at h
    · simp at h
  · simp at h

include hρ in
theorem fl_unOp {op : UnOp} {t : TypeId} {x : Operand} (h : evalFloat P ⟨dst, .unOp op t x, type, pos, after, guard⟩ ρ H id = some (v, blk)) :
    FRes P ρ' ⟨dst, .unOp op t x, type, pos, after, guard⟩ K w id v blk := by
  simp only [evalFloat] at h
  split at h
  · rename_i a hx
    cases hpa : plainV a with
    | false => rw [hpa] at h; simp at h
    | true =>
      rw [hpa] at h
      simp only [cond_true] at h
      have := plain_eq 8 hpa (hρ _ _ hx)
      split at h
      · rename_i u hu
        cases hp : plainV u <;> rw [hp] at h <;> simp at h
        obtain ⟨rfl, rfl⟩ := h
        exact .val (by simp [execOp, ← this, pureP_run hu w]) (.of_plain 8 _ hp)
      · simp at h
  · simp at h

theorem byte_cells (s : ByteArray) : LRel K (s.data.toList.map fun b => Value.int .u8 b.toNat) (s.data.map fun b => Value.int .u8 b.toNat).toList := by
  have : (s.data.map fun b => Value.int .u8 b.toNat).toList = s.data.toList.map fun b => Value.int .u8 b.toNat := by simp
  rw [this]
  exact F2.refl fun x hx => by
    obtain ⟨b, _, rfl⟩ := List.mem_map.1 hx
    exact .int _ _

theorem shape_alloc (w : World) (c : Array Value) (e : TypeId) (n : Nat) (hn : n = w.heap.size) : (w.alloc (.cells c e)).shape? n = some (e, c.size) := by
  subst hn
  unfold World.shape?
  rw [heap_push_new]

include hρ in
theorem fl_convert {src d : TypeId} {x : Operand} (h : evalFloat P ⟨dst, .convert src d x, type, pos, after, guard⟩ ρ H id = some (v, blk)) :
    FRes P ρ' ⟨dst, .convert src d x, type, pos, after, guard⟩ K w id v blk := by
  simp only [evalFloat] at h
  split at h
  · rename_i k0 k k1 n hs hd hx
    cases h
    have hx' := hρ _ _ hx
    generalize hqx : ρ' x = qx at hx'; cases hx'
    exact .val (by simp [execOp, convert, hqx, run_und hs, run_und hd, Conv.intToInt]) (.int _ _)
  · rename_i s hs hd hx
    cases h
    have hx' := hρ _ _ hx
    generalize hqx : ρ' x = qx at hx'; cases hx'
    exact .val (by simp [execOp, convert, hqx, run_und hs, run_und hd]) (.string _)
  · rename_i e s hs hd hx
    split at h
    · rename_i he hse
      cases h
      intro hf
      have hx' := hρ _ _ hx
      generalize hqx : ρ' x = qx at hx'; cases hx'
      have hcap : ∃ cap, (Question.appendCap s.size 0 e).cut (w.tape w.drawn (.appendCap s.size 0 e)) = cap ∧ s.size ≤ cap := ⟨_, rfl, by simp [Question.cut]⟩
      obtain ⟨cap, hcut, hcap⟩ := hcap
      have hcells : ∃ cells : Array Value, (s.data.map fun b => Value.int .u8 b.toNat) ++ Array.replicate (cap - s.size) (.int .u8 0) = cells ∧ cells.size = cap ∧
          (∀ (i : Nat) (v : Value), (s.data.toList.map fun b => Value.int .u8 b.toNat)[i]? = some v → cells[i]? = some v ∧ VRel K v v) := by
        refine ⟨_, rfl, ?_, fun i v hi => ?_⟩
        · have : s.data.size = s.size := rfl
          simp [this]; omega
        · simp only [List.getElem?_map, Array.getElem?_toList, Option.map_eq_some_iff] at hi
          obtain ⟨b, hb, rfl⟩ := hi
          refine ⟨?_, .int _ _⟩
          have hlt : i < s.data.size := by
            rcases Nat.lt_or_ge i s.data.size with h' | h'
            · exact h'
            · simp [Array.getElem?_eq_none h'] at hb
          rw [Array.getElem?_append_left (by simpa using hlt)]
          simp [hb]
      obtain ⟨cells, hcells, hsz, hget⟩ := hcells
      have hrun : (execOp ρ' ⟨dst, .convert src d x, type, pos, after, guard⟩).run P w = .ok (.value (.slice (some ⟨w.heap.size, 0, none⟩) s.size cap)) ((w.drew.alloc (.cells cells e)).freeze ⟨w.heap.size, cells.size, none⟩ 1) := by
        have hsh := shape_alloc w.drew cells e w.heap.size rfl
        simp [execOp, convert, hqx, run_und hs, run_und hd, run_und he, Conv.stringToBytes, Question.forced, newRow, markStringish, hcut, hcells, hsh]
      have hlen : (s.data.toList.map fun b => Value.int .u8 b.toNat).length ≤ cells.size := by
        have : s.data.size = s.size := rfl
        simp [this, hsz, hcap]
      have hfz : ((w.drew.alloc (.cells cells e)).freeze ⟨w.heap.size, cells.size, none⟩ 1) = { w.drew.alloc (.cells cells e) with heap := (w.heap.push (.cells cells e (cells.size, cells.size + 1))) } := by
        unfold World.freeze
        rw [if_neg (by omega)]
        congr 1
        apply Array.ext
        · simp [World.alloc]
        · intro i h1 h2
          simp only [World.alloc, World.drew, Array.getElem_modify, Array.getElem_push]
          by_cases hi : w.heap.size = i
          · subst hi; simp
          · simp [hi]
            split
            · rfl
            · simp at h2; omega
      have hn := newB_cells (K := K) (w := w) (id := id) (c := s.data.toList.map fun b => Value.int .u8 b.toNat) (c' := cells) (e := e) (es := 1) (n := cap) (fr := (cells.size, cells.size + 1))
        (w1 := { w.drew.alloc (.cells cells e) with heap := (w.heap.push (.cells cells e (cells.size, cells.size + 1))) }) hf rfl rfl rfl (by simp)
        (fun r hr => by simp only [Array.getElem?_push]; rw [if_neg (by omega)]) (by simp) hsz hlen (fun i v hi => ⟨v, hget i v hi⟩) (.inr (Nat.le_refl _))
      refine ⟨_, _, _, hrun.trans (by rw [hfz]), slice_new (n := s.size) hn ?_, hn⟩
      exact .inr ⟨by omega, by omega, by simp [Kr.put]⟩
    · simp at h
  · simp at h

include hρ in
theorem fl_makeInterface {t : TypeId} {x : Operand} (h : evalFloat P ⟨dst, .makeInterface t x, type, pos, after, guard⟩ ρ H id = some (v, blk)) :
    FRes P ρ' ⟨dst, .makeInterface t x, type, pos, after, guard⟩ K w id v blk := by
  simp only [evalFloat] at h
  split at h
  · simp at h
  · rename_i d u hni hd hx
    cases h
    refine .val ?_ (.iface t (hρ _ _ hx))
    simp only [execOp, Instr.makeInterface, Sem.run_bind, run_und hd, Result.andThen_ok]
    cases d <;> first | rfl | exact absurd rfl (hni _)
  · simp at h

include hρ in
theorem fl_makeFunc {fn : Fn} {first cap : Array Operand} (h : evalFloat P ⟨dst, .makeFunc fn first cap, type, pos, after, guard⟩ ρ H id = some (v, blk)) :
    FRes P ρ' ⟨dst, .makeFunc fn first cap, type, pos, after, guard⟩ K w id v blk := by
  simp only [evalFloat] at h
  split at h
  · rename_i a b ha hb
    cases h
    have h1 := ARel.of_list (K := K) (a := ⟨a⟩) (a' := first.map ρ') (by simpa using vals_sound hρ ha)
    have h2 := ARel.of_list (K := K) (a := ⟨b⟩) (a' := cap.map ρ') (by simpa using vals_sound hρ hb)
    exact .val (by simp [execOp, Instr.makeFunc]) (.func _ _ _ _ _ h1.1 h1.2 h2.1 h2.2)
  · simp at h

theorem fl_makeMap {t : TypeId} {r : Option Operand} (h : evalFloat P ⟨dst, .makeMap t r, type, pos, after, guard⟩ ρ H id = some (v, blk)) :
    FRes P ρ' ⟨dst, .makeMap t r, type, pos, after, guard⟩ K w id v blk := by
  cases r with
  | some r => simp [evalFloat] at h
  | none =>
    simp only [evalFloat] at h
    cases h
    intro hf
    have hn : NewB K w id (.map [] 0) (K.put id w.heap.size 0 0) (w.alloc (.map #[] 0)) := by
      refine ⟨K.put_le _ _ _ hf, fun b => Iff.rfl, by simp [Kr.put], rfl, rfl, rfl, by simp, fun r hr => ?_, ⟨.inr rfl, rfl, rfl, ?_⟩, trivial⟩
      · show (w.heap.push _)[r]? = _
        rw [Array.getElem?_push, if_neg (by omega)]
      · simpa [Kr.put] using heap_push_new w (.map #[] 0)
    refine ⟨.map (some w.heap.size), _, _, by simp [execOp, Instr.makeMap], ?_, hn⟩
    have := VRel.map (K := K.put id w.heap.size 0 0) id (.inr rfl)
    simpa [Kr.put] using this

theorem fl_makeSlice {t : TypeId} {l c : Operand} (hρ : RhoRel K ρ ρ') (h : evalFloat P ⟨dst, .makeSlice t l c, type, pos, after, guard⟩ ρ H id = some (v, blk)) :
    FRes P ρ' ⟨dst, .makeSlice t l c, type, pos, after, guard⟩ K w id v blk := by
  simp only [evalFloat] at h
  split at h
  · rename_i elem len cap hu hl hc
    split at h
    · rename_i i z hi hz
      cases hg : (Nat.ble (cap * i.size) 4096 && Nat.ble len cap && Nat.ble (cap * i.bytes) 65536 && Nat.ble cap 65536 && !(Nat.beq z.cells.size 0)) with
      | false => rw [hg] at h; simp at h
      | true =>
        rw [hg] at h
        simp only [cond_true] at h
        cases h
        intro hf
        simp only [Bool.and_eq_true, Bool.not_eq_true'] at hg
        have g1 := Nat.le_of_ble_eq_true hg.1.1.1.1
        have g2 := Nat.le_of_ble_eq_true hg.1.1.1.2
        have g3 := Nat.le_of_ble_eq_true hg.1.1.2
        have g4 := Nat.le_of_ble_eq_true hg.1.2
        have h0 : z.cells.size ≠ 0 := fun e => by have := hg.2; rw [e] at this; simp at this
        have hl' := hρ _ _ hl; have hc' := hρ _ _ hc
        generalize hql : ρ' l = ql at hl'; generalize hqc : ρ' c = qc at hc'
        cases hl'; cases hc'
        have hn := newB_alloc (w := w) (e := elem) (es := i.size) hf (zeros_rel (K := K) (n := cap * i.size) (zeroOf_plain hz) h0).list
        refine ⟨_, _, _, ?_, slice_new (n := len) hn (cap_exact (n := cap)), hn⟩
        have e1 : IntKind.i64.wrap (Int.ofNat len) = len := IntWalk.i64_in _ (by have : Int.ofNat len = (len : Int) := rfl; omega)
        have e2 : IntKind.i64.wrap (Int.ofNat cap) = cap := IntWalk.i64_in _ (by have : Int.ofNat cap = (cap : Int) := rfl; omega)
        have e3 : ¬ ((2 : Int) ^ 48 < (i.bytes : Int) * cap) := by
          have g3' : ((cap * i.bytes : Nat) : Int) ≤ (65536 : Nat) := Int.ofNat_le.2 g3
          rw [Int.natCast_mul, Int.mul_comm] at g3'
          omega
        have hmid : (decide ((cap : Int) < 0) || decide ((i.bytes : Int) * cap > 2 ^ 48) || decide ((len : Int) < 0) || decide ((len : Int) > cap)) = false := by
          simp only [Bool.or_eq_false_iff, decide_eq_false_iff_not]
          refine ⟨⟨⟨by omega, by omega⟩, by omega⟩, by omega⟩
        have hso : szOf P elem = some i.size := by unfold szOf; rw [hi]
        have hm : ∀ f : Nat → Value, (Array.range 0).map f = #[] := fun f => Array.eq_empty_of_size_eq_zero (by rw [Array.size_map, Array.size_range])
        simp only [execOp, Instr.makeSlice, hql, hqc, asInt, asIntOf, Sem.run_bind, run_und hu, Result.andThen_ok, Sem.run_pure, run_typeInfo hi, e1, e2]
        simp only [hmid, Bool.false_eq_true, if_false, Sem.run_bind, run_askRoom, Result.andThen_ok, run_sizeOf hso, Int.toNat_natCast]
        rw [Sem.run_ite]
        by_cases hcz : cap * i.size = 0
        · rw [if_pos hcz]
          simp only [hcz, hm, Sem.run_bind, Sem.run_pure, Result.andThen_ok, newRow, run_newObj]
          rfl
        · rw [if_neg hcz]
          simp only [run_zeroOf hz, Sem.run_bind, Sem.run_pure, Result.andThen_ok, newRow, run_newObj]
          rfl
    · simp at h
  · simp at h
end
end Go.Eng
