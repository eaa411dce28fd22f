/- PART OF A PROOF over the given program: Rn6. See the last text of the claim for the statement. -/
import Derived.Test.YtmbgnmnaonjdgaaGreatDoorRn5
import Derived.Deep.RegionLaw
namespace Go.Proofs.YtmbgnmnaonjdgaaGreatDoor
open Go Go.RowKit Go.Own Go.Runes Go.Eng

theorem Tryz.info5 : (Tryz.prog.info? 5).map (fun i => (i.size, i.bytes)) = some (1, 1) := by kernel_rfl
theorem bytes_setup : ∃ info, Eng.ASetup Tryz.prog #[29, 29] 5 info (.int .u8 0) ∧ info.size = 1 ∧ info.bytes = 1 := by
  obtain ⟨i, hi, he⟩ := Option.map_eq_some_iff.1 Tryz.info5
  simp only [Prod.mk.injEq] at he
  exact ⟨i, ⟨⟨29, 29, .slice 5, rfl, rfl, Tryz.underlying29, Tryz.underlying29, fun k h => by cases h⟩, hi, by kernel_rfl⟩, he.1, he.2⟩
theorem fits_byte {n b : Nat} (h : n ≤ 1000000) (hb : b = 1) : Eng.growBound n b = true := by
  subst hb
  unfold Eng.growBound
  exact Nat.ble_eq_true_of_le (by omega)

def bytesV (l : List Int) : List Value := l.map (.int .u8)
theorem bytesV_app (l m : List Int) : bytesV l ++ bytesV m = bytesV (l ++ m) := by simp [bytesV]

/-- numbers, where they lie. -/
def IAt (w : World) (a : Option Addr) (s : List Int) : Prop := ∀ (j : Nat) x, s[j]? = some x → ∃ b off, a = some ⟨b, off, none⟩ ∧ b < w.heap.size ∧ w.cell? ⟨b, off + j, none⟩ = some (.int .i64 x)
theorem IAt.below {w w' : World} {a : Option Addr} {s : List Int} (h : IAt w a s) (hB : Below w.heap.size w w') : IAt w' a s := fun j x hj => by
  obtain ⟨b, off, rfl, hb, hc⟩ := h j x hj
  exact ⟨b, off, rfl, Nat.lt_of_lt_of_le hb hB.size, by rw [hB.cell (p := ⟨b, off + j, none⟩) hb]; exact hc⟩

/-- the bytes of runes. -/
def encAll : List Int → List Int
  | [] => []
  | x :: l => enc x ++ encAll l
theorem encAll_snoc (l : List Int) (x : Int) : encAll (l ++ [x]) = encAll l ++ enc x := by
  induction l with
  | nil => simp [encAll]
  | cons y l ih => simp [encAll, ih]
theorem enc_len (x : Int) : (enc x).length ≤ 4 := by
  unfold enc
  split
  · simp
  · split
    · simp
    · split <;> simp
theorem encAll_len (l : List Int) : (encAll l).length ≤ 4 * l.length := by
  induction l with
  | nil => simp [encAll]
  | cons y l ih => have := enc_len y; simp [encAll]; omega

def allDom (l : List Int) : Bool := l.all dom

def EncIs (W : World) (l : List Int) (e : Ending) (w : World) : Prop :=
  Below W.heap.size W w ∧ ((allDom l = false ∧ e = .returned (.tuple #[.slice none 0 0, .int .i64 10])) ∨ (allDom l = true ∧ ∃ v, e = .returned (.tuple #[v, .int .i64 0]) ∧ Row w 5 v (bytesV (encAll l))))

def EncHead (W : World) (l : List Int) (s4 s13 : Value) (w : World) : Prop :=
  ∃ k : Nat, k ≤ l.length ∧ s13 = .int .i64 k ∧ allDom (l.take k) = true ∧ Held W w [(s4, 5, bytesV (encAll (l.take k)))]
theorem encHead_next {W w : World} {l : List Int} {k : Nat} {x : Int} {v : Value} {E : List Int} (hk : l[k]? = some x) (hd : dom x = true) (ha : allDom (l.take k) = true) (hE : enc x = E) (hh : Held W w [(v, 5, bytesV (encAll (l.take k)) ++ bytesV E)]) : EncHead W l v (.int .i64 ((k : Int) + 1)) w := by
  have hlt : k < l.length := by
    rcases Nat.lt_or_ge k l.length with h' | h'
    · exact h'
    · rw [List.getElem?_eq_none h'] at hk; cases hk
  have ht : l.take (k + 1) = l.take k ++ [x] := by
    rw [List.take_succ_eq_append_getElem hlt]
    rw [List.getElem?_eq_getElem hlt] at hk
    rw [Option.some.inj hk]
  refine ⟨k + 1, hlt, rfl, ?_, ?_⟩
  · rw [ht, allDom, List.all_append]
    unfold allDom at ha
    simp [ha, hd]
  · rw [ht, encAll_snoc, hE, ← bytesV_app]
    exact hh

theorem step_row_append {P : Program} {ops : Array Oper} {o : Oper} {a : Act} {K : Act → World → Prop} {Q : Exit → Act → World → Prop} {E : Prop} (hgd : o.guard = none) (s x : Operand) {tys : Array TypeId}
    (ho : o.op = .call { callee := .builtin .append, args := #[s, x], argTypes := tys })
    {elem : TypeId} {info : TypeInfo} {z : Value} (hs : ASetup P tys elem info z) (hsz : info.size = 1) (hzc : z.cells.size = 1)
    {w : World} (v : Value) (l new : List Value) (ad : Addr) (m c : Nat) (hv : a.eval s = v) (hx : a.eval x = .slice (some ad) m c) (hm : m = new.length) (hr : Row w elem v l) (hnew : ∀ (j : Nat) u, new[j]? = some u → w.cell? (ad.add j) = some u) (hone : ∀ u ∈ new, u.oneCell' = true)
    (hb : growBound (l.length + new.length) info.bytes = true) (hb0 : info.bytes ≠ 0)
    (h : ∀ v' w', Row w' elem v' (l ++ new) → w.grownBy w' v.ownBlock → (v'.ownBlock = v.ownBlock ∨ v'.ownBlock = some w.heap.size) → K (a.put o.dst v') w') : if Region.wanted o (yielded ops a.tmps) = true then Oper.wp P o a w K Q else E := by
  have hw : Region.wanted o (yielded ops a.tmps) = true := by simp [Region.wanted, hgd]
  rw [if_pos hw]
  exact wp_row_append s x ho hs hsz hzc v l new ad m c hv hx hm hr hnew hone hb hb0 h

theorem cells_new {w : World} {l : List Int} (j : Nat) {u : Value} (hj : (bytesV l)[j]? = some u) : (w.alloc (.cells (bytesV l).toArray 5)).cell? ((⟨w.heap.size, 0, none⟩ : Addr).add j) = some u := by
  rw [addr_add, Nat.zero_add, World.cell?_alloc_at _ _ _ _ rfl]
  simpa using hj
theorem cells_new' {w W : World} {l : List Int} {n : Nat} (hn : n = w.heap.size) (h : W.heap = (w.alloc (.cells (bytesV l).toArray 5)).heap) (j : Nat) (u : Value) (hj : (bytesV l)[j]? = some u) : W.cell? ((⟨n, 0, none⟩ : Addr).add j) = some u := by
  subst hn
  have := cells_new (w := w) j hj
  simp only [World.cell?, h] at this ⊢
  exact this
theorem row_heap {w W : World} {e : TypeId} {v : Value} {l : List Value} (h : W.heap = w.heap) (hr : Row w e v l) : Row W e v l := by
  rcases hr with hr | ⟨b, cap, cur, h1, h2, h3⟩
  · exact .inl hr
  · exact .inr ⟨b, cap, cur, h1, by rw [h]; exact h2, h3⟩
theorem held_heap {W w w' : World} {rs : List (Value × TypeId × List Value)} (h : Held W w rs) (h1 : w'.heap = w.heap) (h2 : w'.os = w.os ∧ w'.tape = w.tape ∧ w'.output = w.output) : Held W w' rs :=
  h.same ⟨h2.1, h2.2.1, h2.2.2, by rw [h1]; exact Nat.le_refl _, fun k _ _ => by rw [h1]⟩
theorem bytesV_one (l : List Int) : ∀ u ∈ bytesV l, u.oneCell' = true := fun u hu => by
  simp [bytesV] at hu
  obtain ⟨a, _, rfl⟩ := hu
  rfl

set_option maxRecDepth 100000 in
set_option maxHeartbeats 4000000 in
theorem encode_any (a : Option Addr) (c : Nat) (l : List Int) (w : World) (hl : IAt w a l) (h80 : l.length ≤ 1000) :
    Calls Tryz.prog 32 #[.slice a l.length c] w fun e w' => EncIs w l e w' := by
  obtain ⟨info, hs', hsz, hby'⟩ := bytes_setup
  have HA := Lib.hid hs'
  have HZ := Lib.hid hsz
  have HY := Lib.hid hby'
  have HI := Lib.hid hl
  have hmf := mkFunc
  clear hs' hsz hby' hl
  go_enter Tryz.func32, Tryz.ntmps32
  go_wp2_with fail
  go_loopw [4, 13] (fun s4 s13 wr => EncHead w l s4 s13 wr) (fun _ i _ => l.length - (intOf i).toNat)
  case atStart => exact ⟨0, Nat.zero_le _, rfl, rfl, (Held.start (Below.refl _ w)).addNil 5⟩
  case round =>
    obtain ⟨k, hk, rfl, had, hh⟩ := hrel
    by_cases hlt : k < l.length
    · have hx := List.getElem?_eq_getElem hlt
      obtain ⟨x, hxe⟩ : ∃ x, l[k] = x := ⟨_, rfl⟩
      rw [hxe] at hx
      clear hxe
      have hlt' : (k : Int) < (l.length : Int) := by omega
      obtain ⟨b, off, rfl, hb, hc0⟩ := HI.out k x hx
      have hcx : wr.cell? ⟨b, off + k, none⟩ = some (.int .i64 x) := by rw [hh.bel.cell (p := ⟨b, off + k, none⟩) hb]; exact hc0
      obtain ⟨a1, c1, rfl⟩ := row_slice (hh.row (i := 0) rfl)
      have hln : (bytesV (encAll (l.take k))).length ≤ 4000 := by
        have := encAll_len (l.take k)
        simp [bytesV]
        simp at this
        omega
      obtain ⟨n1, hn1⟩ : ∃ n, (bytesV (encAll (l.take k))).length = n := ⟨_, rfl⟩
      rw [hn1] at hln
      have HX := Lib.hid hx
      have HAD := Lib.hid had
      have HH := Lib.hid (hh.alloc (.cells #[.int .i64 x] 3))
      rw [hn1] at HH ⊢
      have HN1 := Lib.hid hn1
      have g0 : (wr.alloc (.cells #[.int .i64 x] 3)).cell? ⟨wr.heap.size, 0, none⟩ = some (.int .i64 x) := by rw [World.cell?_alloc_at _ _ _ _ rfl]; rfl
      clear hx had hh hn1 hc0
      have HD := fun w => domain_any x w
      by_cases hd : dom x = true
      · rw [hd] at HD
        have hdi := (dom_iff x).1 hd
        have hx0 : 0 ≤ x := by omega
        have hx1 : x ≤ 1114111 := by omega
        have HDm := Lib.hid hd
        clear hd hdi
        by_cases h1 : x < 128
        · as_aux_lemma =>
            have HRow : Hid (∀ W : World, W.heap = ((wr.alloc (.cells #[.int .i64 x] 3)).alloc (.cells #[.int .u8 (x)] 5)).heap → Row W 5 (.slice a1 n1 c1) (bytesV (encAll (l.take k)))) := fun W hW => row_heap hW ((HH.out.alloc (.cells #[.int .u8 (x)] 5)).row (i := 0) rfl)
            have HCell : Hid (∀ W : World, W.heap = ((wr.alloc (.cells #[.int .i64 x] 3)).alloc (.cells #[.int .u8 (x)] 5)).heap → ∀ (j : Nat) (u : Value), (bytesV [x])[j]? = some u → W.cell? ((⟨wr.heap.size + 1, 0, none⟩ : Addr).add j) = some u) := fun W hW => cells_new' (w := wr.alloc (.cells #[.int .i64 x] 3)) (by simp) hW
            go_wp2_with (first | (go_at_call 55; refine (HD _).mono ?_; rintro e w' ⟨rfl, rfl⟩) | (at_builtin; refine wpList_row_append rfl _ _ rfl HA.out HZ.out rfl (.slice a1 n1 c1) (bytesV (encAll (l.take k))) (bytesV [x]) ⟨wr.heap.size + 1, 0, none⟩ 1 1 rfl rfl rfl (HRow.out _ rfl) (HCell.out _ rfl) (bytesV_one _) (fits_byte (by rw [HN1.out]; simp [bytesV]; omega) HY.out) (by rw [HY.out]; decide) ?_))
            intro v1' wd hrow hgr hblk
            have hgr' : ((wr.alloc (.cells #[.int .i64 x] 3)).alloc (.cells #[.int .u8 (x)] 5)).grownBy wd (Value.slice a1 n1 c1).ownBlock := ⟨hgr.os, hgr.tape, hgr.output, hgr.size, hgr.block⟩
            have HF := Lib.hid (HH.out.app (i := 0) rfl hrow hgr' (by simpa using hblk))
            clear hrow hgr hgr' hblk HRow HCell HH g0 HD
            go_wp2_with fail
            exact ⟨encHead_next HX.out HDm.out HAD.out (enc_one (by omega)) HF.out, by simp [intOf]; omega⟩
        · by_cases h2 : x < 2048
          · as_aux_lemma =>
              have HRow : Hid (∀ W : World, W.heap = ((wr.alloc (.cells #[.int .i64 x] 3)).alloc (.cells #[.int .u8 (192 + x / 64), .int .u8 (128 + x % 64)] 5)).heap → Row W 5 (.slice a1 n1 c1) (bytesV (encAll (l.take k)))) := fun W hW => row_heap hW ((HH.out.alloc (.cells #[.int .u8 (192 + x / 64), .int .u8 (128 + x % 64)] 5)).row (i := 0) rfl)
              have HCell : Hid (∀ W : World, W.heap = ((wr.alloc (.cells #[.int .i64 x] 3)).alloc (.cells #[.int .u8 (192 + x / 64), .int .u8 (128 + x % 64)] 5)).heap → ∀ (j : Nat) (u : Value), (bytesV [192 + x / 64, 128 + x % 64])[j]? = some u → W.cell? ((⟨wr.heap.size + 1, 0, none⟩ : Addr).add j) = some u) := fun W hW => cells_new' (w := wr.alloc (.cells #[.int .i64 x] 3)) (by simp) hW
              go_wp2_with (go_at_call 55; refine (HD _).mono ?_; rintro e w' ⟨rfl, rfl⟩)
              have g1 : (wr.alloc (.cells #[.int .i64 x] 3)).drew.cell? ⟨wr.heap.size, 0, none⟩ = some (.int .i64 x) := g0
              have e2 : IntKind.u8.wrap (192 + x / 64) = 192 + x / 64 := by rw [IntKind.wrap_u8]; omega
              have e3 : bits .or .i64 192 (x / 64) = 192 + x / 64 := by rw [i64_or5 (by omega) (by omega) (by omega) (by omega) (by omega)]
              go_region_law (first | (refine step_row_append rfl _ _ rfl HA.out HZ.out rfl (.slice a1 n1 c1) (bytesV (encAll (l.take k))) (bytesV [192 + x / 64, 128 + x % 64]) ⟨wr.heap.size + 1, 0, none⟩ 2 2 rfl rfl rfl (HRow.out _ rfl) (HCell.out _ rfl) (bytesV_one _) (fits_byte (by rw [HN1.out]; simp [bytesV]; omega) HY.out) (by rw [HY.out]; decide)  ?_; intro v1' wd hrow hgr hblk) | (go_simp; go_at_call 54; ((with_reducible refine (sixE0 _ _ _ ⟨hx0, hx1⟩ g1).mono ?_); rintro e w' ⟨rfl, rfl⟩)))
              all_goals
                have hgr' : ((wr.alloc (.cells #[.int .i64 x] 3)).alloc (.cells #[.int .u8 (192 + x / 64), .int .u8 (128 + x % 64)] 5)).grownBy wd (Value.slice a1 n1 c1).ownBlock := ⟨hgr.os, hgr.tape, hgr.output, hgr.size, hgr.block⟩
                have HF := Lib.hid (HH.out.app (i := 0) rfl hrow hgr' (by simpa using hblk))
                clear hrow hgr hgr' hblk HRow HCell HH g0 HD
                go_wp2_with fail
                exact ⟨encHead_next HX.out HDm.out HAD.out (enc_two (by omega) (by omega)) HF.out, by simp [intOf]; omega⟩
          · by_cases h3 : x < 65536
            · as_aux_lemma =>
                have HRow : Hid (∀ W : World, W.heap = ((wr.alloc (.cells #[.int .i64 x] 3)).alloc (.cells #[.int .u8 (224 + x / 4096), .int .u8 (128 + x / 64 % 64), .int .u8 (128 + x % 64)] 5)).heap → Row W 5 (.slice a1 n1 c1) (bytesV (encAll (l.take k)))) := fun W hW => row_heap hW ((HH.out.alloc (.cells #[.int .u8 (224 + x / 4096), .int .u8 (128 + x / 64 % 64), .int .u8 (128 + x % 64)] 5)).row (i := 0) rfl)
                have HCell : Hid (∀ W : World, W.heap = ((wr.alloc (.cells #[.int .i64 x] 3)).alloc (.cells #[.int .u8 (224 + x / 4096), .int .u8 (128 + x / 64 % 64), .int .u8 (128 + x % 64)] 5)).heap → ∀ (j : Nat) (u : Value), (bytesV [224 + x / 4096, 128 + x / 64 % 64, 128 + x % 64])[j]? = some u → W.cell? ((⟨wr.heap.size + 1, 0, none⟩ : Addr).add j) = some u) := fun W hW => cells_new' (w := wr.alloc (.cells #[.int .i64 x] 3)) (by simp) hW
                go_wp2_with (go_at_call 55; refine (HD _).mono ?_; rintro e w' ⟨rfl, rfl⟩)
                have g1 : (wr.alloc (.cells #[.int .i64 x] 3)).drew.cell? ⟨wr.heap.size, 0, none⟩ = some (.int .i64 x) := g0
                have e2 : IntKind.u8.wrap (224 + x / 4096) = 224 + x / 4096 := by rw [IntKind.wrap_u8]; omega
                have e3 : bits .or .i64 224 (x / 4096) = 224 + x / 4096 := by rw [i64_or4 (by omega) (by omega) (by omega) (by omega) (by omega)]
                go_region_law (first | (refine step_row_append rfl _ _ rfl HA.out HZ.out rfl (.slice a1 n1 c1) (bytesV (encAll (l.take k))) (bytesV [224 + x / 4096, 128 + x / 64 % 64, 128 + x % 64]) ⟨wr.heap.size + 1, 0, none⟩ 3 3 rfl rfl rfl (HRow.out _ rfl) (HCell.out _ rfl) (bytesV_one _) (fits_byte (by rw [HN1.out]; simp [bytesV]; omega) HY.out) (by rw [HY.out]; decide)  ?_; intro v1' wd hrow hgr hblk) | (go_simp; go_at_call 54; ((with_reducible refine (sixE1 _ _ _ ⟨hx0, hx1⟩ g1).mono ?_); rintro e w' ⟨rfl, rfl⟩)) | (go_simp; go_at_call 54; ((with_reducible refine (sixE0 _ _ _ ⟨hx0, hx1⟩ g1).mono ?_); rintro e w' ⟨rfl, rfl⟩)))
                all_goals
                  have hgr' : ((wr.alloc (.cells #[.int .i64 x] 3)).alloc (.cells #[.int .u8 (224 + x / 4096), .int .u8 (128 + x / 64 % 64), .int .u8 (128 + x % 64)] 5)).grownBy wd (Value.slice a1 n1 c1).ownBlock := ⟨hgr.os, hgr.tape, hgr.output, hgr.size, hgr.block⟩
                  have HF := Lib.hid (HH.out.app (i := 0) rfl hrow hgr' (by simpa using hblk))
                  clear hrow hgr hgr' hblk HRow HCell HH g0 HD
                  go_wp2_with fail
                  exact ⟨encHead_next HX.out HDm.out HAD.out (enc_three (by omega) (by omega)) HF.out, by simp [intOf]; omega⟩
            · as_aux_lemma =>
                have HRow : Hid (∀ W : World, W.heap = ((wr.alloc (.cells #[.int .i64 x] 3)).alloc (.cells #[.int .u8 (240 + x / 262144), .int .u8 (128 + x / 4096 % 64), .int .u8 (128 + x / 64 % 64), .int .u8 (128 + x % 64)] 5)).heap → Row W 5 (.slice a1 n1 c1) (bytesV (encAll (l.take k)))) := fun W hW => row_heap hW ((HH.out.alloc (.cells #[.int .u8 (240 + x / 262144), .int .u8 (128 + x / 4096 % 64), .int .u8 (128 + x / 64 % 64), .int .u8 (128 + x % 64)] 5)).row (i := 0) rfl)
                have HCell : Hid (∀ W : World, W.heap = ((wr.alloc (.cells #[.int .i64 x] 3)).alloc (.cells #[.int .u8 (240 + x / 262144), .int .u8 (128 + x / 4096 % 64), .int .u8 (128 + x / 64 % 64), .int .u8 (128 + x % 64)] 5)).heap → ∀ (j : Nat) (u : Value), (bytesV [240 + x / 262144, 128 + x / 4096 % 64, 128 + x / 64 % 64, 128 + x % 64])[j]? = some u → W.cell? ((⟨wr.heap.size + 1, 0, none⟩ : Addr).add j) = some u) := fun W hW => cells_new' (w := wr.alloc (.cells #[.int .i64 x] 3)) (by simp) hW
                go_wp2_with (go_at_call 55; refine (HD _).mono ?_; rintro e w' ⟨rfl, rfl⟩)
                have g1 : (wr.alloc (.cells #[.int .i64 x] 3)).drew.cell? ⟨wr.heap.size, 0, none⟩ = some (.int .i64 x) := g0
                have e2 : IntKind.u8.wrap (240 + x / 262144) = 240 + x / 262144 := by rw [IntKind.wrap_u8]; omega
                have e3 : bits .or .i64 240 (x / 262144) = 240 + x / 262144 := by rw [i64_or3 (by omega) (by omega) (by omega) (by omega) (by omega)]
                go_region_law (first | (refine step_row_append rfl _ _ rfl HA.out HZ.out rfl (.slice a1 n1 c1) (bytesV (encAll (l.take k))) (bytesV [240 + x / 262144, 128 + x / 4096 % 64, 128 + x / 64 % 64, 128 + x % 64]) ⟨wr.heap.size + 1, 0, none⟩ 4 4 rfl rfl rfl (HRow.out _ rfl) (HCell.out _ rfl) (bytesV_one _) (fits_byte (by rw [HN1.out]; simp [bytesV]; omega) HY.out) (by rw [HY.out]; decide)  ?_; intro v1' wd hrow hgr hblk) | (go_simp; go_at_call 54; ((with_reducible refine (sixE2 _ _ _ ⟨hx0, hx1⟩ g1).mono ?_); rintro e w' ⟨rfl, rfl⟩)) | (go_simp; go_at_call 54; ((with_reducible refine (sixE1 _ _ _ ⟨hx0, hx1⟩ g1).mono ?_); rintro e w' ⟨rfl, rfl⟩)) | (go_simp; go_at_call 54; ((with_reducible refine (sixE0 _ _ _ ⟨hx0, hx1⟩ g1).mono ?_); rintro e w' ⟨rfl, rfl⟩)))
                all_goals
                  have hgr' : ((wr.alloc (.cells #[.int .i64 x] 3)).alloc (.cells #[.int .u8 (240 + x / 262144), .int .u8 (128 + x / 4096 % 64), .int .u8 (128 + x / 64 % 64), .int .u8 (128 + x % 64)] 5)).grownBy wd (Value.slice a1 n1 c1).ownBlock := ⟨hgr.os, hgr.tape, hgr.output, hgr.size, hgr.block⟩
                  have HF := Lib.hid (HH.out.app (i := 0) rfl hrow hgr' (by simpa using hblk))
                  clear hrow hgr hgr' hblk HRow HCell HH g0 HD
                  go_wp2_with fail
                  exact ⟨encHead_next HX.out HDm.out HAD.out (enc_four (by omega)) HF.out, by simp [intOf]; omega⟩
      · have hd' : dom x = false := by simpa using hd
        rw [hd'] at HD
        have HDm := Lib.hid hd'
        have HB := Lib.hid HH.out.bel
        clear hd hd' HH
        go_wp2_with (go_at_call 55; refine (HD _).mono ?_; rintro e w' ⟨rfl, rfl⟩)
        go_ret2
        exact ⟨HB.out, .inl ⟨by
          unfold allDom
          rw [List.all_eq_false]
          exact ⟨x, List.mem_of_getElem? HX.out, by simp [HDm.out]⟩, rfl⟩⟩
    · have hke : k = l.length := by omega
      have hlt' : ¬ ((k : Int) < (l.length : Int)) := by omega
      have hr := hh.row (i := 0) rfl
      rw [hke, List.take_length] at hr had
      have HF := Lib.hid (And.intro had hr)
      have HB := Lib.hid hh.bel
      clear hh hr had
      go_wp2_with fail
      go_ret2
      exact ⟨HB.out, .inr ⟨HF.out.1, _, rfl, HF.out.2⟩⟩
end Go.Proofs.YtmbgnmnaonjdgaaGreatDoor
