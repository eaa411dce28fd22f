/- PART OF A PROOF over the given program: EngB. See the last text of the claim for the statement. -/
import Derived.Test.YtmbgnmnaonjdgaaGreatDoorEngA
import Derived.Laws.Sem
import Derived.Laws.World
namespace Go.Eng
open Go

/-! ### forcing changes nothing -/
theorem forceN_eq {β : Type} (n : Nat) (k : Nat → β) : forceN n k = k n := by cases n <;> rfl
theorem forceI_eq {β : Type} (n : Int) (k : Int → β) : forceI n k = k n := by cases n <;> simp [forceI, forceN_eq]
theorem forceL_eq {α β : Type} (f : α → (α → β) → β) (hf : ∀ x k, f x k = k x) : ∀ (l : List α) (k : List α → β), forceL f l k = k l
  | [], k => rfl
  | x :: xs, k => by rw [forceL, hf, forceL_eq f hf]
theorem forceA_eq {β : Type} (a : Option Addr) (k : Option Addr → β) : forceA a k = k a := by
  cases a with
  | none => rfl
  | some a => obtain ⟨b, o, s⟩ := a; cases s <;> simp [forceA, forceN_eq]
theorem forceV_eq {β : Type} : ∀ (d : Nat) (v : Value) (k : Value → β), forceV d v k = k v
  | 0, v, k => rfl
  | d + 1, v, k => by
    have ih : ∀ (v : Value) (k : Value → β), forceV d v k = k v := forceV_eq d
    cases v <;> simp only [forceV, forceN_eq, forceA_eq, forceI_eq, ih, forceL_eq _ ih]
    case bool b => cases b <;> rfl
    case int i n => cases i <;> rfl
    case string s =>
      obtain ⟨⟨l⟩⟩ := s
      exact forceL_eq _ (fun x k => by obtain ⟨⟨⟨n, h⟩⟩⟩ := x; rfl) l _
    case map r => cases r <;> rfl
theorem forceBlk_eq {β : Type} (k : Option Blk) (f : Option Blk → β) : forceBlk k f = f k := by
  cases k with
  | none => rfl
  | some k => cases k <;> simp [forceBlk, forceN_eq, forceL_eq _ (fun v k => forceV_eq D v k)]

/-! ### trees -/
theorem T.get_set {α : Type} : ∀ (t t' : T α) (k j : Nat) (v : α), t.set k v = some t' → t'.get j = if j = k then some v else t.get j
  | .leaf a, t', k, j, v, h => by
    cases k with
    | zero =>
      simp only [T.set, Option.some.injEq] at h; subst h
      cases j <;> simp [T.get]
    | succ k => simp [T.set] at h
  | .node l r, t', k, j, v, h => by
    have e : ∀ i : Nat, Nat.beq (i % 2) 0 = decide (i % 2 = 0) := fun i => by
      by_cases hi : i % 2 = 0
      · simp [hi]
      · simp only [hi, decide_false]
        cases hb : Nat.beq (i % 2) 0 with
        | false => rfl
        | true => exact absurd (Nat.eq_of_beq_eq_true hb) hi
    simp only [T.set] at h
    by_cases hk : k % 2 = 0
    · simp only [hk, Nat.beq_refl, cond_true] at h
      split at h
      · rename_i l' hl
        simp only [Option.some.injEq] at h; subst h
        have ih := T.get_set l l' (k / 2) (j / 2) v hl
        simp only [T.get, e]
        by_cases hj : j % 2 = 0
        · simp only [hj, decide_true, cond_true, ih]
          by_cases hjk : j = k
          · simp [hjk]
          · have : ¬ j / 2 = k / 2 := by omega
            simp [hjk, this]
        · have : ¬ j = k := by omega
          simp [hj, this]
      · simp at h
    · simp only [e, hk, decide_false, cond_false] at h
      split at h
      · rename_i r' hr
        simp only [Option.some.injEq] at h; subst h
        have ih := T.get_set r r' (k / 2) (j / 2) v hr
        simp only [T.get, e]
        by_cases hj : j % 2 = 0
        · have : ¬ j = k := by omega
          simp [hj, this]
        · simp only [hj, decide_false, cond_false, ih]
          by_cases hjk : j = k
          · simp [hjk]
          · have : ¬ j / 2 = k / 2 := by omega
            simp [hjk, this]
      · simp at h

theorem AH.get_setB {H H' : AH} {b : Nat} {k : Blk} (h : H.setB b k = some H') (j : Nat) : H'.get j = if j = b then k else H.get j := by
  simp only [AH.setB] at h
  split at h
  · rename_i t ht
    simp only [Option.some.injEq] at h; subst h
    simp only [AH.get, T.get_set _ _ _ j _ ht]
    by_cases hj : j = b <;> simp [hj]
  · simp at h
theorem AH.next_setB {H H' : AH} {b : Nat} {k : Blk} (h : H.setB b k = some H') : H'.next = H.next := by
  simp only [AH.setB] at h
  split at h
  · simp only [Option.some.injEq] at h; subst h; rfl
  · simp at h
theorem AH.get_push {H H' : AH} {k : Blk} (h : H.push k = some H') (j : Nat) : H'.get j = if j = H.next then k else H.get j := by
  simp only [AH.push] at h
  split at h
  · rename_i t ht
    simp only [Option.some.injEq] at h; subst h
    simp only [AH.get, T.get_set _ _ _ j _ ht]
    by_cases hj : j = H.next <;> simp [hj]
  · simp at h
theorem AH.next_push {H H' : AH} {k : Blk} (h : H.push k = some H') : H'.next = H.next + 1 := by
  simp only [AH.push] at h
  split at h
  · simp only [Option.some.injEq] at h; subst h; rfl
  · simp at h

/-! ### relations -/
inductive F2 {α β : Type} (R : α → β → Prop) : List α → List β → Prop
  | nil : F2 R [] []
  | cons {x y xs ys} : R x y → F2 R xs ys → F2 R (x :: xs) (y :: ys)

theorem F2.mono {α β : Type} {R R' : α → β → Prop} (h : ∀ x y, R x y → R' x y) : ∀ {l l'}, F2 R l l' → F2 R' l l'
  | _, _, .nil => .nil
  | _, _, .cons r t => .cons (h _ _ r) (F2.mono h t)
theorem F2.length {α β : Type} {R : α → β → Prop} : ∀ {l : List α} {l' : List β}, F2 R l l' → l.length = l'.length
  | _, _, .nil => rfl
  | _, _, .cons _ t => by simp [F2.length t]
theorem F2.get {α β : Type} {R : α → β → Prop} : ∀ {l : List α} {l' : List β}, F2 R l l' → ∀ (i : Nat) (v : α), l[i]? = some v → ∃ v', l'[i]? = some v' ∧ R v v'
  | _, _, .nil, i, v, h => by simp at h
  | _, _, .cons r t, 0, v, h => by simp at h; subst h; exact ⟨_, rfl, r⟩
  | _, _, .cons r t, i + 1, v, h => by simpa using F2.get t i v (by simpa using h)
theorem F2.get_none {α β : Type} {R : α → β → Prop} {l : List α} {l' : List β} (h : F2 R l l') (i : Nat) (hn : l[i]? = none) : l'[i]? = none := by
  rw [List.getElem?_eq_none_iff] at *; rw [← h.length]; exact hn
theorem F2.append {α β : Type} {R : α → β → Prop} : ∀ {a : List α} {a' : List β} {b : List α} {b' : List β}, F2 R a a' → F2 R b b' → F2 R (a ++ b) (a' ++ b')
  | _, _, _, _, .nil, h => h
  | _, _, _, _, .cons r t, h => .cons r (F2.append t h)
theorem F2.take {α β : Type} {R : α → β → Prop} : ∀ {a : List α} {a' : List β} (n : Nat), F2 R a a' → F2 R (a.take n) (a'.take n)
  | _, _, 0, _ => by simp; exact .nil
  | _, _, _ + 1, .nil => by simp; exact .nil
  | _, _, n + 1, .cons r t => by simp; exact .cons r (F2.take n t)
theorem F2.drop {α β : Type} {R : α → β → Prop} : ∀ {a : List α} {a' : List β} (n : Nat), F2 R a a' → F2 R (a.drop n) (a'.drop n)
  | _, _, 0, h => h
  | _, _, _ + 1, .nil => by simp; exact .nil
  | _, _, n + 1, .cons r t => by simp; exact F2.drop n t
theorem F2.of_get {α β : Type} {R : α → β → Prop} : ∀ {l : List α} {l' : List β}, l.length = l'.length → (∀ (i : Nat) (v : α) (v' : β), l[i]? = some v → l'[i]? = some v' → R v v') → F2 R l l'
  | [], [], _, _ => .nil
  | [], _ :: _, h, _ => by simp at h
  | _ :: _, [], h, _ => by simp at h
  | x :: xs, y :: ys, h, hr => .cons (hr 0 x y rfl rfl) (F2.of_get (by simpa using h) fun i v v' h1 h2 => hr (i + 1) v v' (by simpa using h1) (by simpa using h2))
theorem F2.refl {α : Type} {R : α → α → Prop} : ∀ {l : List α}, (∀ x ∈ l, R x x) → F2 R l l
  | [], _ => .nil
  | x :: xs, h => .cons (h x (by simp)) (F2.refl fun y hy => h y (by simp [hy]))

structure Kr where
  dom : Nat → Prop
  ρ : Nat → Nat
  sz : Nat → Nat
  es : Nat → Nat

def Kr.le (K K' : Kr) : Prop := ∀ b, K.dom b → K'.dom b ∧ K'.ρ b = K.ρ b ∧ K'.sz b = K.sz b ∧ K'.es b = K.es b
theorem Kr.le_refl (K : Kr) : K.le K := fun _ h => ⟨h, rfl, rfl, rfl⟩
theorem Kr.le_trans {K K' K'' : Kr} (h : K.le K') (h' : K'.le K'') : K.le K'' := fun b hb => by
  obtain ⟨d, r, s, e⟩ := h b hb
  obtain ⟨d', r', s', e'⟩ := h' b d
  exact ⟨d', r'.trans r, s'.trans s, e'.trans e⟩

def capOK (K : Kr) (b o c c' : Nat) : Prop := (c % 2 = 1 ∧ c' = c / 2) ∨ (c % 2 = 0 ∧ c / 2 ≤ c' ∧ o + c' * K.es b ≤ K.sz b)
theorem capOK.mono {K K' : Kr} (h : K.le K') {b o c c' : Nat} (hb : K.dom b) (hc : capOK K b o c c') : capOK K' b o c c' := by
  obtain ⟨_, _, hs, he⟩ := h b hb
  unfold capOK at *
  rw [hs, he]; exact hc

inductive VRel (K : Kr) : Value → Value → Prop
  | bool (b) : VRel K (.bool b) (.bool b)
  | int (k n) : VRel K (.int k n) (.int k n)
  | float (k b) : VRel K (.float k b) (.float k b)
  | complex (k a b) : VRel K (.complex k a b) (.complex k a b)
  | string (s) : VRel K (.string s) (.string s)
  | ptrN : VRel K (.pointer none) (.pointer none)
  | ptr (b o) : K.dom b → VRel K (.pointer (some ⟨b, o, none⟩)) (.pointer (some ⟨K.ρ b, o, none⟩))
  | sliceN (c) : c ≤ 1 → VRel K (.slice none 0 c) (.slice none 0 0)
  | slice (b o n c c') : K.dom b → capOK K b o c c' → VRel K (.slice (some ⟨b, o, none⟩) n c) (.slice (some ⟨K.ρ b, o, none⟩) n c')
  | mapN : VRel K (.map none) (.map none)
  | map (b) : K.dom b → VRel K (.map (some b)) (.map (some (K.ρ b)))
  | chanN : VRel K (.chan none) (.chan none)
  | nilFunc : VRel K .nilFunc .nilFunc
  | nilIface : VRel K .nilIface .nilIface
  | func (fn) (a a' b b' : Array Value) : a.size = a'.size → (∀ (i : Nat) (v v' : Value), a[i]? = some v → a'[i]? = some v' → VRel K v v') →
      b.size = b'.size → (∀ (i : Nat) (v v' : Value), b[i]? = some v → b'[i]? = some v' → VRel K v v') → VRel K (.func fn a b) (.func fn a' b')
  | iface (t) {v v'} : VRel K v v' → VRel K (.iface t v) (.iface t v')
  | agg (a a' : Array Value) : a.size = a'.size → (∀ (i : Nat) (v v' : Value), a[i]? = some v → a'[i]? = some v' → VRel K v v') → VRel K (.agg a) (.agg a')
  | tuple (a a' : Array Value) : a.size = a'.size → (∀ (i : Nat) (v v' : Value), a[i]? = some v → a'[i]? = some v' → VRel K v v') → VRel K (.tuple a) (.tuple a')

abbrev LRel (K : Kr) := F2 (VRel K)

theorem arr_of_F2 {K : Kr} {a a' : Array Value} (h : LRel K a.toList a'.toList) : a.size = a'.size ∧ ∀ (i : Nat) (v v' : Value), a[i]? = some v → a'[i]? = some v' → VRel K v v' := by
  refine ⟨by simpa using h.length, fun i v v' h1 h2 => ?_⟩
  obtain ⟨u, hu, hr⟩ := h.get i v (by simpa using h1)
  rw [show a'.toList[i]? = a'[i]? by simp, h2] at hu
  exact (Option.some.inj hu) ▸ hr
theorem F2_of_arr {K : Kr} {a a' : Array Value} (hs : a.size = a'.size) (h : ∀ (i : Nat) (v v' : Value), a[i]? = some v → a'[i]? = some v' → VRel K v v') : LRel K a.toList a'.toList :=
  F2.of_get (by simpa using hs) fun i v v' h1 h2 => h i v v' (by simpa using h1) (by simpa using h2)

theorem VRel.mono {K K' : Kr} (hK : K.le K') {v v' : Value} (h : VRel K v v') : VRel K' v v' := by
  induction h with
  | bool b => exact .bool b
  | int k n => exact .int k n
  | float k b => exact .float k b
  | complex k a b => exact .complex k a b
  | string s => exact .string s
  | ptrN => exact .ptrN
  | ptr b o hb => obtain ⟨d, r, _, _⟩ := hK b hb; rw [← r]; exact .ptr b o d
  | sliceN c hc => exact .sliceN c hc
  | slice b o n c c' hb hc => obtain ⟨d, r, _, _⟩ := hK b hb; rw [← r]; exact .slice b o n c c' d (hc.mono hK hb)
  | mapN => exact .mapN
  | map b hb => obtain ⟨d, r, _, _⟩ := hK b hb; rw [← r]; exact .map b d
  | chanN => exact .chanN
  | nilFunc => exact .nilFunc
  | nilIface => exact .nilIface
  | func fn a a' b b' ha _ hb _ iha ihb => exact .func fn a a' b b' ha iha hb ihb
  | iface t _ ih => exact .iface t ih
  | agg a a' ha _ ih => exact .agg a a' ha ih
  | tuple a a' ha _ ih => exact .tuple a a' ha ih

theorem LRel.mono {K K' : Kr} (hK : K.le K') {l l' : List Value} (h : LRel K l l') : LRel K' l l' := F2.mono (fun _ _ => VRel.mono hK) h

theorem VRel.of_plain {K : Kr} : ∀ (n : Nat) (v : Value), plainN n v = true → VRel K v v
  | 0, v, h => by simp [plainN] at h
  | n + 1, v, h => by
    have ih := VRel.of_plain (K := K) n
    have arr : ∀ (a : Array Value), a.toList.all (plainN n) = true → ∀ (i : Nat) (v v' : Value), a[i]? = some v → a[i]? = some v' → VRel K v v' := fun a ha i v v' h1 h2 => by
      rw [h1] at h2; cases h2
      exact ih v (List.all_eq_true.1 ha v (by rw [← Array.getElem?_toList] at h1; exact List.mem_of_getElem? h1))
    cases v <;> simp only [plainN, Bool.and_eq_true, Option.isNone_iff_eq_none] at h
    case bool => exact .bool _
    case int => exact .int _ _
    case float => exact .float _ _
    case complex => exact .complex _ _ _
    case string => exact .string _
    case pointer => subst h; exact .ptrN
    case slice a n c =>
      obtain ⟨⟨rfl, hn⟩, hc⟩ := h
      have := Nat.eq_of_beq_eq_true hn; have := Nat.eq_of_beq_eq_true hc; subst n c
      exact .sliceN 0 (by omega)
    case map => subst h; exact .mapN
    case chan => subst h; exact .chanN
    case func fn a b => exact .func fn a a b b rfl (arr a h.1) rfl (arr b h.2)
    case nilFunc => exact .nilFunc
    case nilIface => exact .nilIface
    case iface t v => exact .iface t (ih v h)
    case agg a => exact .agg a a rfl (arr a h)
    case tuple a => exact .tuple a a rfl (arr a h)

theorem plain_eq {K : Kr} : ∀ (n : Nat) {v v' : Value}, plainN n v = true → VRel K v v' → v = v'
  | 0, v, v', h, _ => by simp [plainN] at h
  | n + 1, v, v', h, hr => by
    have ih := fun {v v' : Value} => plain_eq (K := K) n (v := v) (v' := v')
    have arr : ∀ (a a' : Array Value), a.toList.all (plainN n) = true → a.size = a'.size → (∀ (i : Nat) (v v' : Value), a[i]? = some v → a'[i]? = some v' → VRel K v v') → a = a' := fun a a' ha hs h => by
      refine Array.ext hs fun i h1 h2 => ?_
      refine ih ?_ (h i a[i] a'[i] (by simp [h1]) (by simp [h2]))
      exact List.all_eq_true.1 ha _ (by simp)
    cases hr <;> simp only [plainN, Bool.and_eq_true, Option.isNone_iff_eq_none] at h
    case ptr => simp at h
    case sliceN c hc =>
      have := Nat.eq_of_beq_eq_true h.2; subst c; rfl
    case slice => simp at h
    case map => simp at h
    case func fn a a' b b' ha hva hb hvb => rw [arr a a' h.1 ha hva, arr b b' h.2 hb hvb]
    case iface t v v' hv => rw [ih h hv]
    case agg a a' ha hv => rw [arr a a' h ha hv]
    case tuple a a' ha hv => rw [arr a a' h ha hv]
    all_goals rfl

/-! ### memory -/
def BRel (K : Kr) (b : Nat) (w : World) : Blk → Prop
  | .dead => True
  | .cells c elem es rw => K.dom b ∧ es = K.es b ∧ (rw = false → K.ρ b = b) ∧ ∃ c' fr, w.heap[K.ρ b]? = some (.cells c' elem fr) ∧ c'.size = K.sz b ∧ c.length ≤ c'.size ∧
      (∀ (i : Nat) (v : Value), c[i]? = some v → ∃ v', c'[i]? = some v' ∧ VRel K v v') ∧ (rw = true → fr.1 = fr.2 ∨ c'.size ≤ fr.1)
  | .map es clock => K.dom b ∧ es = [] ∧ clock = 0 ∧ w.heap[K.ρ b]? = some (.map #[] 0)

theorem unfrozen {fr : Nat × Nat} {n : Nat} (h : fr.1 = fr.2 ∨ n ≤ fr.1) (i : Nat) (hi : i < n) : ¬ (fr.1 ≤ i ∧ i < fr.2) := by omega

def live : Blk → Prop | .dead => False | _ => True
def isRW : Blk → Prop | .cells _ _ _ true => True | .map _ _ => True | _ => False
theorem live_of_isRW {k : Blk} (h : isRW k) : live k := by cases k <;> simp_all [isRW, live]

structure Rel (G : List Nat) (K : Kr) (h : Nat → Blk) (w : World) : Prop where
  blk : ∀ b, BRel K b w (h b)
  inj : ∀ b b', live (h b) → live (h b') → K.ρ b = K.ρ b' → b = b'
  glob : ∀ g ∈ G, K.dom g ∧ K.ρ g = g

structure Ext (K : Kr) (h : Nat → Blk) (w : World) (K' : Kr) (h' : Nat → Blk) (w' : World) : Prop where
  le : K.le K'
  size : w.heap.size ≤ w'.heap.size
  os : w'.os = w.os
  tape : w'.tape = w.tape
  output : w'.output = w.output
  old : ∀ r, r < w.heap.size → (∀ b, isRW (h b) → K.ρ b ≠ r) → w'.heap[r]? = w.heap[r]?
  img : ∀ b, live (h' b) → (∃ b0, live (h b0) ∧ K.ρ b0 = K'.ρ b) ∨ w.heap.size ≤ K'.ρ b
  imgRW : ∀ b, isRW (h' b) → (∃ b0, isRW (h b0) ∧ K.ρ b0 = K'.ρ b) ∨ w.heap.size ≤ K'.ρ b

theorem Ext.refl (K : Kr) (h : Nat → Blk) (w : World) : Ext K h w K h w :=
  ⟨Kr.le_refl K, Nat.le_refl _, rfl, rfl, rfl, fun _ _ _ => rfl, fun b hb => .inl ⟨b, hb, rfl⟩, fun b hb => .inl ⟨b, hb, rfl⟩⟩

theorem Ext.trans {K : Kr} {h : Nat → Blk} {w : World} {K1 : Kr} {h1 : Nat → Blk} {w1 : World} {K2 : Kr} {h2 : Nat → Blk} {w2 : World}
    (x : Ext K h w K1 h1 w1) (y : Ext K1 h1 w1 K2 h2 w2) : Ext K h w K2 h2 w2 := by
  refine ⟨Kr.le_trans x.le y.le, Nat.le_trans x.size y.size, y.os.trans x.os, y.tape.trans x.tape, y.output.trans x.output, fun r hr hn => ?_, fun b hb => ?_, fun b hb => ?_⟩
  · rw [y.old r (Nat.lt_of_lt_of_le hr x.size) fun b hb e => ?_, x.old r hr hn]
    rcases x.imgRW b hb with ⟨b0, h0, e0⟩ | h0
    · exact hn b0 h0 (e0.trans e)
    · omega
  · rcases y.img b hb with ⟨b0, h0, e0⟩ | h0
    · rcases x.img b0 h0 with ⟨b1, h1', e1⟩ | h1'
      · exact .inl ⟨b1, h1', e1.trans e0⟩
      · exact .inr (by omega)
    · exact .inr (Nat.le_trans x.size h0)
  · rcases y.imgRW b hb with ⟨b0, h0, e0⟩ | h0
    · rcases x.imgRW b0 h0 with ⟨b1, h1', e1⟩ | h1'
      · exact .inl ⟨b1, h1', e1.trans e0⟩
      · exact .inr (by omega)
    · exact .inr (Nat.le_trans x.size h0)

/-- the world is turned in nothing that is there (draws; new blocks; what is frozen behind the end of a block is not seen here). -/
def Quiet (w w' : World) : Prop := w'.os = w.os ∧ w'.tape = w.tape ∧ w'.output = w.output ∧ w'.heap = w.heap
end Go.Eng
