/- PROVED HERE: TopRunesByHand (herontop) returns true for every row of bytes and every row of numbers, and leaves what it was given as it was: the tied card. No condition but the card's own: the package-level variables read as the program's text lays them. -/
import Derived.Test.YtmbgnmnaonjdgaaGreatDoorRn7
import Derived.Test.YtmbgnmnaonjdgaaGreatDoorLk8
namespace Go.Proofs.YtmbgnmnaonjdgaaGreatDoor
open Go.ChangeShapes Go.WideShapes Go.ChangeAt Go.RowKit Go.Runes

theorem Tryz.cells5 : Tryz.prog.cellsOf 5 = 1 := by kernel_rfl
theorem u8_of_wf {n : Int} (h : (Lit.int .u8 n).wf = true) : 0 ≤ n ∧ n ≤ 255 := by
  have h1 : IntKind.u8.min = 0 := rfl
  have h2 : IntKind.u8.max = 255 := rfl
  simp only [Lit.wf, Bool.and_eq_true, decide_eq_true_eq] at h
  omega

/-- WHAT A SLICE OF INTEGERS READS AS, as a list. -/
theorem slice_list {k : IntKind} {t e : TypeId} {H : Type} {enc : TypeId × Value → H} {W : World} {fuel : Nat} {a0 : Option Addr} {len cap : Nat} {x : DataW H × List MemPlace}
    (ht : Tryz.prog.underlying t = some (.slice e)) (he : Tryz.prog.underlying e = some (.int k)) (hc : Tryz.prog.cellsOf e = 1)
    (hf : DataW.trod enc Tryz.prog W 0 (fun _ => true) true fuel t [.slice a0 len cap] = some x) (hlt : ∀ y ∈ x.2, y.block < W.heap.size) :
    len ≤ cap ∧ ∃ zs : List Int, zs.length = len ∧ ∀ (j : Nat) y, zs[j]? = some y → (Lit.int k y).wf = true ∧ ∃ b off, a0 = some ⟨b, off, none⟩ ∧ b < W.heap.size ∧ W.cell? ⟨b, off + j, none⟩ = some (.int k y) := by
  rcases open_ints ht he hc hf with ⟨hcs, hx⟩ | ⟨a, len', cap', zs, hcs, _, hl, hm, hz, hx, hcell, hwz⟩
  · simp at hcs
    obtain ⟨rfl, rfl, rfl⟩ := hcs
    exact ⟨Nat.le_refl _, [], rfl, fun j y hj => by simp at hj⟩
  · simp at hcs
    obtain ⟨rfl, rfl, rfl⟩ := hcs
    simp only [if_true] at hz
    subst hx
    refine ⟨hl, zs.take len, by simp; omega, fun j y hj => ?_⟩
    rw [List.getElem?_take] at hj
    split at hj
    · have hjz : j < zs.length := by omega
      have hy : zs[j] = y := by rw [List.getElem?_eq_getElem hjz] at hj; exact Option.some.inj hj
      obtain ⟨b, off, spot⟩ := a
      have hspot : spot = none := by simpa [Addr.add] using World.cell?_spot (hcell 0 (by omega))
      subst hspot
      have hbW : b < W.heap.size := hlt (.cell b off) (MemPlace.mem_row.2 ⟨0, by omega, by simp⟩)
      refine ⟨hwz _ (by rw [← hy]; exact List.getElem_mem _), b, off, rfl, hbW, ?_⟩
      have := hcell j hjz
      rw [List.getD_eq_getElem?_getD, List.getElem?_eq_getElem hjz] at this
      rw [← add_plain, this]
      exact congrArg (fun z => some (Value.int k z)) hy
    · cases hj

theorem byhand_call {w : World} {e : TypeId} {fr : Nat × Nat} (hL : w.heap[0]? = some (.cells leadsCells.toArray e fr)) (a a' : Option Addr) (n n' c c' : Nat) (hc : n ≤ c) (hc' : n' ≤ c') (zs ys : List Int) (hz : zs.length = n) (hy : ys.length = n')
    (h1 : ∀ (j : Nat) y, zs[j]? = some y → (Lit.int .u8 y).wf = true ∧ ∃ b off, a = some ⟨b, off, none⟩ ∧ b < w.heap.size ∧ w.cell? ⟨b, off + j, none⟩ = some (.int .u8 y))
    (h2 : ∀ (j : Nat) y, ys[j]? = some y → (Lit.int .i64 y).wf = true ∧ ∃ b off, a' = some ⟨b, off, none⟩ ∧ b < w.heap.size ∧ w.cell? ⟨b, off + j, none⟩ = some (.int .i64 y)) :
    Calls Tryz.prog 5 #[.slice a n c, .slice a' n' c'] w fun e w' => e = .returned (.bool true) ∧ Below w.heap.size w w' := by
  have get : ∀ {l : List Int} {m j : Nat} {y : Int}, (l.take m)[j]? = some y → l[j]? = some y := fun {l m j y} h => by
    rw [List.getElem?_take] at h
    split at h
    · exact h
    · cases h
  refine byhand_any a a' n n' c c' (zs.take 80) (ys.take 20) w hL hc hc' (by simp; omega) (by simp; omega) (fun j y hj => (h1 j y (get hj)).2) (fun j y hj => (h2 j y (get hj)).2) (fun x hx => ?_) (awake_calls w hL)
  obtain ⟨j, hj⟩ := List.mem_iff_getElem?.1 hx
  exact u8_of_wf (h1 j x (get hj)).1

set_option maxRecDepth 100000 in
theorem byhand_lifted (os : Os) (started : os.Started) (H : Type) (enc : TypeId × Value → H) :
    ReturnsInHanded {} Tryz.checked os 5 .any (fun w args => (Rows.topRunesByHandSpec.pre enc Tryz.prog Tryz.f5 [] false w args ∧ laidMetH Tryz.prog laidU w) ∧ sizedMet enc Tryz.prog Tryz.f5 (OpenSpec.ofChange Rows.topRunesByHandSpec) false w args)
      (Rows.topRunesByHandSpec.post enc Tryz.prog Tryz.f5 false true false false) := by
  refine returnsInHanded_of_change_and (C := Tryz.checked) (X := fun w _ => laidMetH Tryz.prog laidU w) (fun _ _ _ hh h => h.of_heap hh) Tryz.own started (by kernel_rfl) Tryz.func5
    (ChangeSpec.witness_shaped (enc := enc) (C := Tryz.checked) (os := os) (X := fun w _ => laidMetH Tryz.prog laidU w) false (World.doorLaid Tryz.prog 400 os) #[.slice none 0 0, .slice none 0 0] 8 rfl (World.shaped_of_RefB (by kernel_rfl) (by kernel_rfl)) (by kernel_rfl) (by kernel_rfl) (by kernel_rfl) (door_met os _)) ?_
  intro W base args ds gs before hval0 hW _ _ hL _
  have hval : ∀ (j : Nat) t v, Tryz.f5.params[j]? = some t → args[j]? = some v → Value.okWide Tryz.prog W .any base t v := hval0
  have hW' := hW
  obtain ⟨p, q, hA0, hV, rfl, _, _⟩ := hW
  have hA : DataW.TrodAll enc Tryz.prog W 0 (fun _ => true) true Tryz.f5.params.toList args.toList ds p := hA0
  rw [Tryz.params5] at hA hval
  obtain ⟨v0, v1, d0, d1, p0, p1, rfl, rfl, rfl, h0, h1⟩ := trodAll_two hA
  obtain ⟨rfl, rfl⟩ := trodVars_none hV
  obtain ⟨a0, len, cap, rfl⟩ := okWide_slice Tryz.underlying29 (hval 0 29 v0 rfl rfl)
  obtain ⟨a1, len1, cap1, rfl⟩ := okWide_slice Tryz.underlying22 (hval 1 22 v1 rfl rfl)
  have h0k := h0
  have h1k := h1
  obtain ⟨fuel, hf⟩ := h0
  obtain ⟨fuel1, hf1⟩ := h1
  clear hA0 hval0
  simp only [List.append_nil] at hW'
  obtain ⟨e, fr, hleads⟩ := leads_of_laid hL
  have hlt : ∀ x ∈ p0 ++ p1, x.block < W.heap.size := fun x hx => by simpa using hW'.lt x hx
  have hlt0 : ∀ x ∈ p0, x.block < W.heap.size := fun x hx => hlt x (List.mem_append_left _ hx)
  have hlt1 : ∀ x ∈ p1, x.block < W.heap.size := fun x hx => hlt x (List.mem_append_right _ hx)
  have hargs : ∀ (W' : World), Below W.heap.size W W' → DataW.Trod enc Tryz.prog W' 0 (fun b => decide (b < W.heap.size)) true 29 (.slice a0 len cap) d0 p0 :=
    fun W' hn => Below.trod Tryz.laidOut (by kernel_rfl) (of_decide_eq_true (by kernel_rfl)) h0k hn hlt0
  have hargs1 : ∀ (W' : World), Below W.heap.size W W' → DataW.Trod enc Tryz.prog W' 0 (fun b => decide (b < W.heap.size)) true 22 (.slice a1 len1 cap1) d1 p1 :=
    fun W' hn => Below.trod Tryz.laidOut (by kernel_rfl) (of_decide_eq_true (by kernel_rfl)) h1k hn hlt1
  obtain ⟨hc0, zs, hz, hb0⟩ := slice_list Tryz.underlying29 Tryz.underlying5 Tryz.cells5 (by simpa [Value.cells] using hf) hlt0
  obtain ⟨hc1, ys, hy, hb1⟩ := slice_list Tryz.underlying22 Tryz.underlying3 Tryz.cells3 (by simpa [Value.cells] using hf1) hlt1
  refine (byhand_call hleads a0 a1 len len1 cap cap1 hc0 hc1 zs ys hz hy hb0 hb1).mono fun e W' ⟨he, hnx⟩ => ?_
  subst he
  refine ⟨_, rfl, _, _, _, [], p0 ++ p1, [], hW', ?_, ?_, rfl, hnx.frame _, fun h => by cases h⟩
  · exact trodAll_mk1 (shut_bool Tryz.underlying4 _)
  · exact trodAll_mk2 (hargs _ hnx) (hargs1 _ hnx)

theorem topRunesByHand_holds : Rows.TopRunesByHandSaid :=
  OpenClaim.holds_of_wide 5 Tryz.f5 rfl rfl rfl rfl rfl rfl rfl ⟨rfl, rfl, rfl, rfl, rfl⟩ rfl rfl rfl rfl rfl (by kernel_rfl) Tryz.func5 (by kernel_rfl)
    (of_decide_eq_true (by kernel_rfl)) (by unfold Func.isWrapper; first | (rw [if_pos (by decide +kernel)]; kernel_rfl) | (rw [if_neg (by decide +kernel)]; exact ⟨rfl, rfl⟩))
    (fun os started H enc _ => byhand_lifted os started H enc)

theorem topRunesByHand_card : Rows.TopRunesByHandCardSaid :=
  Claim7.holds_tied_plain_at .later [] [.handle, .data] true (true, "d0f7ba2fc30328c2ed9526a0000fa4ab4174e7930540bcc4d7ef1b980b86e1b2") true
    topRunesByHand_holds (fun _ h => by cases h) (by kernel_rfl) (fun _ h => by cases h) topRunesByHand_row_tie rfl ⟨rfl, rfl⟩ (by kernel_rfl) rfl
    (fun f fn hf hfn => by
      obtain rfl : f = 5 := Option.some.inj ((show Tryz.prog.funcNamed "heron/herontop.TopRunesByHand" = some 5 by kernel_rfl).symm.trans hf) |>.symm
      obtain rfl : fn = Tryz.f5 := (Option.some.inj (Tryz.func5.symm.trans hfn)).symm
      exact ⟨by kernel_rfl, fun j t ht => by
        rw [Tryz.params5] at ht
        have hm : t ∈ [29, 22] := by simpa using Array.mem_of_getElem? ht
        have hall : ([29, 22].all fun u => !Tryz.prog.wantsStandIn u) = true := by kernel_rfl
        exact (show Tryz.prog.wantsStandIn t = false by simpa using List.all_eq_true.1 hall t hm)⟩)
    (by kernel_rfl)
#print axioms topRunesByHand_card
end Go.Proofs.YtmbgnmnaonjdgaaGreatDoor
