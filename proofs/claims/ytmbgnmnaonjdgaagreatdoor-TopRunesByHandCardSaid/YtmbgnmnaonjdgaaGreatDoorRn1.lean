/-! bytes and runes, plainly: what Decode tells, what reedCut finds, and that they are the same. -/
namespace Go.Runes

def dom (x : Int) : Bool := decide (0 ≤ x ∧ x < 55296 ∨ 57343 < x ∧ x ≤ 1114111)

def enc (x : Int) : List Int :=
  if x < 128 then [x]
  else if x < 2048 then [192 + x / 64, 128 + x % 64]
  else if x < 65536 then [224 + x / 4096, 128 + x / 64 % 64, 128 + x % 64]
  else [240 + x / 262144, 128 + x / 4096 % 64, 128 + x / 64 % 64, 128 + x % 64]

def cont (c : Int) : Bool := decide (128 ≤ c ∧ c ≤ 191)
def two (f : Int) : Bool := decide (194 ≤ f ∧ f ≤ 223)
def three (f c : Int) : Bool := decide (f = 224 ∧ 160 ≤ c ∧ c ≤ 191 ∨ 225 ≤ f ∧ f ≤ 236 ∧ 128 ≤ c ∧ c ≤ 191 ∨ f = 237 ∧ 128 ≤ c ∧ c ≤ 159 ∨ 238 ≤ f ∧ f ≤ 239 ∧ 128 ≤ c ∧ c ≤ 191)
def four (f c : Int) : Bool := decide (f = 240 ∧ 144 ≤ c ∧ c ≤ 191 ∨ 241 ≤ f ∧ f ≤ 243 ∧ 128 ≤ c ∧ c ≤ 191 ∨ f = 244 ∧ 128 ≤ c ∧ c ≤ 143)

def dec2 (f c : Int) : Int := f % 32 * 64 + c % 64
def dec3 (f c d : Int) : Int := (f % 16 * 64 + c % 64) * 64 + d % 64
def dec4 (f c d e : Int) : Int := ((f % 8 * 64 + c % 64) * 64 + d % 64) * 64 + e % 64

/-- what Decode tells of bytes. -/
def dec : List Int → Int × Nat
  | [] => (0, 0)
  | f :: t => if f ≤ 127 then (f, 1) else
    match t with
    | [] => (65533, 1)
    | c :: t => if two f && cont c then (dec2 f c, 2) else
      match t with
      | [] => (65533, 1)
      | d :: t => if three f c && cont d then (dec3 f c d, 3) else
        match t with
        | [] => (65533, 1)
        | e :: _ => if four f c && cont d && cont e then (dec4 f c d e, 4) else (65533, 1)

/-- what reedCut tries: so many bytes as a rune. -/
def cand (k : Nat) (b : List Int) : Option Int :=
  match k, b with
  | 1, f :: _ => if 127 < f then none else if dom f && enc f == [f] then some f else none
  | 2, f :: c :: _ => if f < 192 then none else if dom (dec2 f c) && enc (dec2 f c) == [f, c] then some (dec2 f c) else none
  | 3, f :: c :: d :: _ => if f < 192 then none else if dom (dec3 f c d) && enc (dec3 f c d) == [f, c, d] then some (dec3 f c d) else none
  | 4, f :: c :: d :: e :: _ => if f < 192 then none else if dom (dec4 f c d e) && enc (dec4 f c d e) == [f, c, d, e] then some (dec4 f c d e) else none
  | _, _ => none

def pick (b : List Int) : Nat → Int × Nat
  | 0 => (65533, 1)
  | k + 1 => match cand (k + 1) b with
    | some x => (x, k + 1)
    | none => pick b k

def byte (x : Int) : Prop := 0 ≤ x ∧ x ≤ 255

theorem cand1 {f : Int} {t : List Int} (hf : byte f) : cand 1 (f :: t) = if f ≤ 127 then some f else none := by
  unfold byte at hf
  simp only [cand]
  by_cases h : f ≤ 127
  · have h1 : dom f = true := by unfold dom; rw [decide_eq_true_eq]; omega
    have h2 : enc f = [f] := by unfold enc; rw [if_pos (by omega)]
    rw [if_neg (by omega), if_pos h, h1, h2]
    simp
  · rw [if_pos (by omega), if_neg h]

theorem enc_one {x : Int} (h : x < 128) : enc x = [x] := by unfold enc; rw [if_pos h]
theorem enc_two {x : Int} (h : ¬ x < 128) (h2 : x < 2048) : enc x = [192 + x / 64, 128 + x % 64] := by unfold enc; rw [if_neg h, if_pos h2]
theorem enc_three {x : Int} (h : ¬ x < 2048) (h2 : x < 65536) : enc x = [224 + x / 4096, 128 + x / 64 % 64, 128 + x % 64] := by unfold enc; rw [if_neg (by omega), if_neg h, if_pos h2]
theorem enc_four {x : Int} (h : ¬ x < 65536) : enc x = [240 + x / 262144, 128 + x / 4096 % 64, 128 + x / 64 % 64, 128 + x % 64] := by unfold enc; rw [if_neg (by omega), if_neg (by omega), if_neg h]

theorem dom_iff (x : Int) : dom x = true ↔ (0 ≤ x ∧ x < 55296 ∨ 57343 < x ∧ x ≤ 1114111) := by unfold dom; exact decide_eq_true_iff

theorem cand2 {f c : Int} {t : List Int} (hf : byte f) (hc : byte c) : cand 2 (f :: c :: t) = if two f && cont c then some (dec2 f c) else none := by
  unfold byte at hf hc
  simp only [cand]
  by_cases h : f < 192
  · rw [if_pos h, if_neg]
    simp only [two, Bool.and_eq_true, decide_eq_true_eq]
    omega
  · rw [if_neg h]
    have key : (dom (dec2 f c) && enc (dec2 f c) == [f, c]) = (two f && cont c) := by
      have hx : dec2 f c = f % 32 * 64 + c % 64 := rfl
      generalize dec2 f c = x at *
      rw [Bool.eq_iff_iff, Bool.and_eq_true, Bool.and_eq_true, beq_iff_eq, dom_iff]
      unfold two cont
      rw [decide_eq_true_iff, decide_eq_true_iff]
      by_cases h1 : x < 128
      · rw [enc_one h1]; simp; omega
      · rw [enc_two h1 (by omega)]
        simp only [List.cons.injEq, and_true]
        omega
    rw [key]

theorem cand3 {f c d : Int} {t : List Int} (hf : byte f) (hc : byte c) (hd : byte d) : cand 3 (f :: c :: d :: t) = if three f c && cont d then some (dec3 f c d) else none := by
  unfold byte at hf hc hd
  simp only [cand]
  by_cases h : f < 192
  · rw [if_pos h, if_neg]
    simp only [three, Bool.and_eq_true, decide_eq_true_eq]
    omega
  · rw [if_neg h]
    have key : (dom (dec3 f c d) && enc (dec3 f c d) == [f, c, d]) = (three f c && cont d) := by
      have hx : dec3 f c d = (f % 16 * 64 + c % 64) * 64 + d % 64 := rfl
      generalize dec3 f c d = x at *
      rw [Bool.eq_iff_iff, Bool.and_eq_true, Bool.and_eq_true, beq_iff_eq, dom_iff]
      unfold three cont
      rw [decide_eq_true_iff, decide_eq_true_iff]
      by_cases h1 : x < 2048
      · by_cases h2 : x < 128
        · rw [enc_one h2]; simp; omega
        · rw [enc_two h2 h1]; simp; omega
      · rw [enc_three h1 (by omega)]
        simp only [List.cons.injEq, and_true]
        omega
    rw [key]

theorem cand4 {f c d e : Int} {t : List Int} (hf : byte f) (hc : byte c) (hd : byte d) (he : byte e) : cand 4 (f :: c :: d :: e :: t) = if four f c && cont d && cont e then some (dec4 f c d e) else none := by
  unfold byte at hf hc hd he
  simp only [cand]
  by_cases h : f < 192
  · rw [if_pos h, if_neg]
    simp only [four, Bool.and_eq_true, decide_eq_true_eq]
    omega
  · rw [if_neg h]
    have key : (dom (dec4 f c d e) && enc (dec4 f c d e) == [f, c, d, e]) = (four f c && cont d && cont e) := by
      have hx : dec4 f c d e = ((f % 8 * 64 + c % 64) * 64 + d % 64) * 64 + e % 64 := rfl
      generalize dec4 f c d e = x at *
      rw [Bool.eq_iff_iff, Bool.and_eq_true, Bool.and_eq_true, Bool.and_eq_true, beq_iff_eq, dom_iff]
      unfold four cont
      rw [decide_eq_true_iff, decide_eq_true_iff, decide_eq_true_iff]
      by_cases h1 : x < 65536
      · by_cases h2 : x < 128
        · rw [enc_one h2]; simp; omega
        · by_cases h3 : x < 2048
          · rw [enc_two h2 h3]; simp; omega
          · rw [enc_three h3 h1]; simp; omega
      · rw [enc_four h1]
        simp only [List.cons.injEq, and_true]
        omega
    rw [key]

theorem two_lt {f c : Int} (h : (two f && cont c) = true) : ¬ f ≤ 127 ∧ three f c = false ∧ four f c = false := by
  simp only [two, three, four, Bool.and_eq_true, decide_eq_true_eq, decide_eq_false_iff_not] at *
  omega
theorem three_lt {f c : Int} (h : three f c = true) : ¬ f ≤ 127 ∧ four f c = false ∧ two f = false := by
  simp only [two, three, four, decide_eq_true_eq, decide_eq_false_iff_not] at *
  omega
theorem four_lt {f c : Int} (h : four f c = true) : ¬ f ≤ 127 ∧ three f c = false ∧ two f = false := by
  simp only [two, three, four, decide_eq_true_eq, decide_eq_false_iff_not] at *
  omega
theorem small_not {f c : Int} (h : f ≤ 127) : two f = false ∧ three f c = false ∧ four f c = false := by
  simp only [two, three, four, decide_eq_false_iff_not] at *
  omega

/-- WHAT reedCut PICKS IS WHAT Decode TELLS. -/
theorem pick_dec (b : List Int) (hb : ∀ x ∈ b, byte x) (h0 : b ≠ []) : pick b 4 = dec b := by
  match b, h0 with
  | [f], _ =>
    have hf := hb f (by simp)
    have e4 : cand 4 [f] = none := rfl
    have e3 : cand 3 [f] = none := rfl
    have e2 : cand 2 [f] = none := rfl
    simp only [pick, e4, e3, e2, cand1 hf, dec]
    by_cases h1 : f ≤ 127 <;> simp [h1]
  | [f, c], _ =>
    have hf := hb f (by simp)
    have hc := hb c (by simp)
    have e4 : cand 4 [f, c] = none := rfl
    have e3 : cand 3 [f, c] = none := rfl
    simp only [pick, e4, e3, cand2 hf hc, cand1 hf, dec]
    by_cases h1 : f ≤ 127
    · simp [h1, small_not (c := c) h1]
    · by_cases h2 : (two f && cont c) = true <;> simp [h1, h2]
  | [f, c, d], _ =>
    have hf := hb f (by simp)
    have hc := hb c (by simp)
    have hd := hb d (by simp)
    have e4 : cand 4 [f, c, d] = none := rfl
    simp only [pick, e4, cand3 hf hc hd, cand2 hf hc, cand1 hf, dec]
    by_cases h1 : f ≤ 127
    · simp [h1, small_not (c := c) h1]
    · by_cases h2 : (two f && cont c) = true
      · simp [h1, h2, two_lt h2]
      · by_cases h3 : (three f c && cont d) = true <;> simp [h1, h2, h3]
  | f :: c :: d :: e :: t, _ =>
    have hf := hb f (by simp)
    have hc := hb c (by simp)
    have hd := hb d (by simp)
    have he := hb e (by simp)
    simp only [pick, cand4 hf hc hd he, cand3 hf hc hd, cand2 hf hc, cand1 hf, dec]
    by_cases h1 : f ≤ 127
    · simp [h1, small_not (c := c) h1]
    · by_cases h2 : (two f && cont c) = true
      · simp [h1, h2, two_lt h2]
      · by_cases h3 : (three f c && cont d) = true
        · have h3' : three f c = true := by simp at h3; exact h3.1
          simp [h1, h2, h3, three_lt h3']
        · by_cases h4 : (four f c && cont d && cont e) = true <;> simp [h1, h2, h3, h4]

theorem dec_width (b : List Int) (h0 : b ≠ []) : 1 ≤ (dec b).2 ∧ (dec b).2 ≤ b.length ∧ (dec b).2 ≤ 4 := by
  match b, h0 with
  | [f], _ => simp only [dec]; split <;> simp
  | [f, c], _ => simp only [dec]; repeat' (split <;> try simp)
  | [f, c, d], _ => simp only [dec]; repeat' (split <;> try simp)
  | f :: c :: d :: e :: t, _ => simp only [dec]; repeat' (split <;> try (simp; try omega))
theorem dec_rune (b : List Int) (hb : ∀ x ∈ b, byte x) : 0 ≤ (dec b).1 ∧ (dec b).1 ≤ 2097151 := by
  match b with
  | [] => simp [dec]
  | [f] =>
    have hf := hb f (by simp)
    unfold byte at hf
    simp only [dec]
    split
    · simp; omega
    · simp
  | [f, c] =>
    have hf := hb f (by simp)
    have hc := hb c (by simp)
    unfold byte at hf hc
    simp only [dec, dec2]
    repeat' split
    all_goals (simp; try omega)
  | [f, c, d] =>
    have hf := hb f (by simp)
    have hc := hb c (by simp)
    have hd := hb d (by simp)
    unfold byte at hf hc hd
    simp only [dec, dec2, dec3]
    repeat' split
    all_goals (simp; try omega)
  | f :: c :: d :: e :: t =>
    have hf := hb f (by simp)
    have hc := hb c (by simp)
    have hd := hb d (by simp)
    have he := hb e (by simp)
    unfold byte at hf hc hd he
    simp only [dec, dec2, dec3, dec4]
    repeat' split
    all_goals (simp; try omega)

theorem dec_lead2 {f : Int} (h1 : 127 < f) (h2 : two f = true) (h3 : ∀ c, three f c = false) (h4 : ∀ c, four f c = false) (t : List Int) :
    dec (f :: t) = match t with
      | c :: _ => if cont c then (dec2 f c, 2) else (65533, 1)
      | [] => (65533, 1) := by
  have hn : ¬ f ≤ 127 := by omega
  match t with
  | [] => simp [dec, hn]
  | [c] => simp [dec, hn, h2]
  | [c, d] => simp [dec, hn, h2, h3]
  | c :: d :: e :: t => simp [dec, hn, h2, h3, h4]
theorem dec_lead3 {f : Int} (h1 : 127 < f) (h2 : two f = false) (h4 : ∀ c, four f c = false) (t : List Int) :
    dec (f :: t) = match t with
      | c :: d :: _ => if three f c && cont d then (dec3 f c d, 3) else (65533, 1)
      | _ => (65533, 1) := by
  have hn : ¬ f ≤ 127 := by omega
  match t with
  | [] => simp [dec, hn]
  | [c] => simp [dec, hn, h2]
  | [c, d] => simp [dec, hn, h2]
  | c :: d :: e :: t => simp [dec, hn, h2, h4]
theorem dec_lead4 {f : Int} (h1 : 127 < f) (h2 : two f = false) (h3 : ∀ c, three f c = false) (t : List Int) :
    dec (f :: t) = match t with
      | c :: d :: e :: _ => if four f c && cont d && cont e then (dec4 f c d e, 4) else (65533, 1)
      | _ => (65533, 1) := by
  have hn : ¬ f ≤ 127 := by omega
  match t with
  | [] => simp [dec, hn]
  | [c] => simp [dec, hn, h2]
  | [c, d] => simp [dec, hn, h2, h3]
  | c :: d :: e :: t => simp [dec, hn, h2, h3]
theorem dec_lead0 {f : Int} (h1 : 127 < f) (h2 : two f = false) (h3 : ∀ c, three f c = false) (h4 : ∀ c, four f c = false) (t : List Int) : dec (f :: t) = (65533, 1) := by
  rw [dec_lead4 h1 h2 h3]
  match t with
  | [] => rfl
  | [c] => rfl
  | [c, d] => rfl
  | c :: d :: e :: t => simp [h4]
theorem dec_lead1 {f : Int} (h1 : f ≤ 127) (t : List Int) : dec (f :: t) = (f, 1) := by simp [dec, h1]

/-- the state of a cut behind so many runes: how far, the runes, their places. -/
def cutSt (s : List Int) : Nat → Nat × List Int × List Int
  | 0 => (0, [], [])
  | j + 1 => ((cutSt s j).1 + (dec (s.drop (cutSt s j).1)).2, (cutSt s j).2.1 ++ [(dec (s.drop (cutSt s j).1)).1], (cutSt s j).2.2 ++ [((cutSt s j).1 : Int)])

theorem cutSt_le (s : List Int) (j : Nat) : (cutSt s j).1 ≤ s.length := by
  induction j with
  | zero => simp [cutSt]
  | succ j ih =>
    simp only [cutSt]
    by_cases h : (cutSt s j).1 = s.length
    · rw [h, List.drop_length]; simp [dec]
    · have := (dec_width (s.drop (cutSt s j).1) (by
        intro hn
        have := congrArg List.length hn
        simp at this
        omega)).2.1
      rw [List.length_drop] at this
      omega
theorem cutSt_lt (s : List Int) (j : Nat) (h : (cutSt s j).1 < s.length) : (cutSt s j).1 < (cutSt s (j + 1)).1 := by
  have := (dec_width (s.drop (cutSt s j).1) (by
    intro hn
    have := congrArg List.length hn
    simp at this
    omega)).1
  simp only [cutSt]
  omega
theorem cutSt_len (s : List Int) (j : Nat) : (cutSt s j).2.1.length = j ∧ (cutSt s j).2.2.length = j := by
  induction j with
  | zero => simp [cutSt]
  | succ j ih => simp [cutSt, ih]
theorem cutSt_ge (s : List Int) (j : Nat) (h : (cutSt s j).1 < s.length) : j ≤ (cutSt s j).1 := by
  induction j with
  | zero => omega
  | succ j ih =>
    have hle : (cutSt s j).1 ≤ (cutSt s (j + 1)).1 := by simp only [cutSt]; omega
    have h1 : (cutSt s j).1 < s.length := by omega
    have := cutSt_lt s j h1
    have := ih h1
    omega
end Go.Runes
