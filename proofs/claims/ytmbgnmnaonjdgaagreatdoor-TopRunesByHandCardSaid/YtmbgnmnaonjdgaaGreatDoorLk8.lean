/- PART OF A PROOF over the given program: Lk8. See the last text of the claim for the statement. -/
import Derived.Test.YtmbgnmnaonjdgaaGreatDoorLk7
import Derived.Test.YtmbgnmnaonjdgaaGreatDoorTie
import Derived.Test.YtmbgnmnaonjdgaaGreatDoorCards
import Derived.SevenTiedAt
namespace Go.Proofs.YtmbgnmnaonjdgaaGreatDoor
open Go.ChangeShapes Go.WideShapes Go.ChangeAt Go.RowKit

theorem inI64_of_wf {n : Int} (h : (Lit.int .i64 n).wf = true) : inI64 n := by
  have h1 : IntKind.i64.min = -9223372036854775808 := rfl
  have h2 : IntKind.i64.max = 9223372036854775807 := rfl
  simp only [Lit.wf, Bool.and_eq_true, decide_eq_true_eq] at h
  unfold inI64
  omega

/-- THE LAW'S CALL, of whatever row of integers. -/
theorem looked_any {w : World} {e : TypeId} {fr : Nat × Nat} (hL : w.heap[0]? = some (.cells leadsCells.toArray e fr)) (x : Int) (hx : inI64 x) (a : Option Addr) (len cap : Nat) (hcap : len ≤ cap)
    (hs : len = 0 ∨ ∃ (b off : Nat) (zs : List Int), a = some ⟨b, off, none⟩ ∧ b < w.heap.size ∧ len ≤ zs.length ∧ ∀ j, j < zs.length → w.cell? ⟨b, off + j, none⟩ = some (.int .i64 (zs.getD j 0))) :
    Calls Tryz.prog 3 #[.slice a len cap, .int .i64 x] w fun e w' => e = .returned (.bool true) ∧ Below w.heap.size w w' := by
  have haw := awake_calls w hL
  have hlaw := flip_law x hx
  rcases hs with rfl | ⟨b, off, zs, rfl, hb, hz, hc⟩
  · exact top_small a cap [] x w (Nat.zero_le _) (Nat.zero_le _) (.inl ⟨rfl, a, cap, rfl⟩) haw hlaw
  · by_cases h0 : len = 0
    · subst h0
      exact top_small _ cap [] x w (Nat.zero_le _) (Nat.zero_le _) (.inl ⟨rfl, _, cap, rfl⟩) haw hlaw
    · have text : ∀ m, 0 < m → m ≤ len → ∀ c, TextAt w (.slice (some ⟨b, off, none⟩) m c) (zs.take m) := fun m hm hml c => by
        have hlen : (zs.take m).length = m := by simp; omega
        refine .inr ⟨by omega, b, off, c, by rw [hlen], hb, fun j hj => ?_⟩
        rw [hlen] at hj
        rw [hc j (by omega)]
        simp [hj]
      by_cases hl : len ≤ 30
      · have hlen : (zs.take len).length = len := by simp; omega
        have ht := text len (by omega) (Nat.le_refl _) cap
        have := top_small (some ⟨b, off, none⟩) cap (zs.take len) x w (by omega) (by omega) (by rw [hlen]; exact ht) haw hlaw
        rw [hlen] at this
        exact this
      · have hlen : (zs.take 30).length = 30 := by simp; omega
        exact top_big b off cap len (zs.take 30) x w (by omega) hcap hlen (text 30 (by omega) (by omega) cap) haw hlaw

set_option maxRecDepth 100000 in
theorem looked_lifted (os : Os) (started : os.Started) (H : Type) (enc : TypeId × Value → H) :
    ReturnsInHanded {} Tryz.checked os 3 .any (fun w args => (Rows.topLookedSpec.pre enc Tryz.prog Tryz.f3 [] false w args ∧ laidMetH Tryz.prog laidU w) ∧ sizedMet enc Tryz.prog Tryz.f3 (OpenSpec.ofChange Rows.topLookedSpec) false w args)
      (Rows.topLookedSpec.post enc Tryz.prog Tryz.f3 false true false false) := by
  refine returnsInHanded_of_change_and (C := Tryz.checked) (X := fun w _ => laidMetH Tryz.prog laidU w) (fun _ _ _ hh h => h.of_heap hh) Tryz.own started (by kernel_rfl) Tryz.func3
    (ChangeSpec.witness_shaped (enc := enc) (C := Tryz.checked) (os := os) (X := fun w _ => laidMetH Tryz.prog laidU w) false (World.doorLaid Tryz.prog 400 os) #[.slice none 0 0, .int .i64 0] 8 rfl (World.shaped_of_RefB (by kernel_rfl) (by kernel_rfl)) (by kernel_rfl) (by kernel_rfl) (by kernel_rfl) (door_met os _)) ?_
  intro W base args ds gs before hval0 hW _ _ hL _
  have hval : ∀ (j : Nat) t v, Tryz.f3.params[j]? = some t → args[j]? = some v → Value.okWide Tryz.prog W .any base t v := hval0
  have hW' := hW
  obtain ⟨p, q, hA0, hV, rfl, _, _⟩ := hW
  have hA : DataW.TrodAll enc Tryz.prog W 0 (fun _ => true) true Tryz.f3.params.toList args.toList ds p := hA0
  rw [Tryz.params3] at hA hval
  obtain ⟨v0, v1, d0, d1, p0, p1, rfl, rfl, rfl, h0, h1⟩ := trodAll_two hA
  obtain ⟨rfl, rfl⟩ := trodVars_none hV
  obtain ⟨m, rfl, rfl, rfl, wm⟩ := open_int Tryz.underlying3 (hval 1 3 v1 rfl rfl) h1
  obtain ⟨a0, len, cap, rfl⟩ := okWide_slice Tryz.underlying22 (hval 0 22 v0 rfl rfl)
  have h0k := h0
  obtain ⟨fuel, hf⟩ := h0
  clear hA0 hval0
  simp only [List.append_nil] at hW'
  obtain ⟨e, fr, hleads⟩ := leads_of_laid hL
  have hlt : ∀ x ∈ p0, x.block < W.heap.size := fun x hx => by simpa using hW'.lt x hx
  have hargs : ∀ (W' : World), Below W.heap.size W W' → DataW.Trod enc Tryz.prog W' 0 (fun b => decide (b < W.heap.size)) true 22 (.slice a0 len cap) d0 p0 :=
    fun W' hn => Below.trod Tryz.laidOut (by kernel_rfl) (of_decide_eq_true (by kernel_rfl)) h0k hn hlt
  have hslice : len ≤ cap ∧ (len = 0 ∨ ∃ (b off : Nat) (zs : List Int), a0 = some ⟨b, off, none⟩ ∧ b < W.heap.size ∧ len ≤ zs.length ∧ ∀ j, j < zs.length → W.cell? ⟨b, off + j, none⟩ = some (.int .i64 (zs.getD j 0))) := by
    rcases open_ints Tryz.underlying22 Tryz.underlying3 Tryz.cells3 hf with ⟨hcs, hx⟩ | ⟨a, len', cap', zs, hcs, _, hl, hm, hz, hx, hcell, hwz⟩
    · simp [Value.cells] at hcs
      obtain ⟨rfl, rfl, rfl⟩ := hcs
      exact ⟨Nat.le_refl _, .inl rfl⟩
    · simp [Value.cells] at hcs
      obtain ⟨rfl, rfl, rfl⟩ := hcs
      simp only [Prod.mk.injEq] at hx
      obtain ⟨rfl, rfl⟩ := hx
      simp only [if_true] at hz
      refine ⟨hl, ?_⟩
      by_cases hl0 : len = 0
      · exact .inl hl0
      · obtain ⟨b, off, spot⟩ := a
        have hspot : spot = none := by simpa [Addr.add] using World.cell?_spot (hcell 0 (by omega))
        subst hspot
        have hbW : b < W.heap.size := hlt (.cell b off) (MemPlace.mem_row.2 ⟨0, by omega, by simp⟩)
        exact .inr ⟨b, off, zs, rfl, hbW, by omega, fun j hj => by rw [← add_plain]; exact hcell j hj⟩
  refine (looked_any hleads m (inI64_of_wf wm) a0 len cap hslice.1 hslice.2).mono fun e W' ⟨he, hnx⟩ => ?_
  subst he
  refine ⟨_, rfl, _, _, _, [], p0 ++ [], [], hW', ?_, ?_, rfl, hnx.frame _, fun h => by cases h⟩
  · exact trodAll_mk1 (shut_bool Tryz.underlying4 _)
  · exact trodAll_mk2 (hargs _ hnx) (shut_int Tryz.underlying3 wm)

theorem topLooked_holds : Rows.TopLookedSaid :=
  OpenClaim.holds_of_wide 3 Tryz.f3 rfl rfl rfl rfl rfl rfl rfl ⟨rfl, rfl, rfl, rfl, rfl⟩ rfl rfl rfl rfl rfl (by kernel_rfl) Tryz.func3 (by kernel_rfl)
    (of_decide_eq_true (by kernel_rfl)) (by unfold Func.isWrapper; first | (rw [if_pos (by decide +kernel)]; kernel_rfl) | (rw [if_neg (by decide +kernel)]; exact ⟨rfl, rfl⟩))
    (fun os started H enc _ => looked_lifted os started H enc)

theorem topLooked_card : Rows.TopLookedCardSaid :=
  Claim7.holds_tied_plain_at .later [] [.handle, .data] true (true, "d0f7ba2fc30328c2ed9526a0000fa4ab4174e7930540bcc4d7ef1b980b86e1b2") true
    topLooked_holds (fun _ h => by cases h) (by kernel_rfl) (fun _ h => by cases h) topLooked_row_tie rfl ⟨rfl, rfl⟩ (by kernel_rfl) rfl
    (fun f fn hf hfn => by
      obtain rfl : f = 3 := Option.some.inj ((show Tryz.prog.funcNamed "heron/herontop.TopLooked" = some 3 by kernel_rfl).symm.trans hf) |>.symm
      obtain rfl : fn = Tryz.f3 := (Option.some.inj (Tryz.func3.symm.trans hfn)).symm
      exact ⟨by kernel_rfl, fun j t ht => by
        rw [Tryz.params3] at ht
        have hm : t ∈ [22, 3] := by simpa using Array.mem_of_getElem? ht
        have hall : ([22, 3].all fun u => !Tryz.prog.wantsStandIn u) = true := by kernel_rfl
        exact (show Tryz.prog.wantsStandIn t = false by simpa using List.all_eq_true.1 hall t hm)⟩)
    (by kernel_rfl)
#print axioms topLooked_card
end Go.Proofs.YtmbgnmnaonjdgaaGreatDoor
