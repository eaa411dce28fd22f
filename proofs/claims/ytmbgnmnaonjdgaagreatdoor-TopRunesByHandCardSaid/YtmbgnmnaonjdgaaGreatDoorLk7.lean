/- PART OF A PROOF over the given program: Lk7. See the last text of the claim for the statement. -/
import Derived.Test.YtmbgnmnaonjdgaaGreatDoorLk6
import Derived.Test.YtmbgnmnaonjdgaaGreatDoorAwk
import Derived.ProofKit
import Derived.LaidMore
import Derived.OpenShut
import Derived.Stop.Joined
import Derived.LaidHandle
namespace Go.Proofs.YtmbgnmnaonjdgaaGreatDoor
open Go.ChangeShapes Go.WideShapes Go.ChangeAt Go.RowKit

theorem Tryz.own : ownKnob Tryz.prog.godebug = none := by kernel_rfl
theorem Tryz.laidOut : laidOutB Tryz.prog = true := by kernel_rfl
theorem Tryz.gLeads : Tryz.prog.globalNamed "heron/runes.leads" = some 0 := by kernel_rfl
theorem Tryz.tLeads : (Tryz.prog.globals[0]?).map (·.type) = some 89 := by kernel_rfl
theorem Tryz.cells3 : Tryz.prog.cellsOf 3 = 1 := by kernel_rfl
theorem Tryz.cells88 : Tryz.prog.cellsOf 88 = 5 := by kernel_rfl
theorem Tryz.cells89 : Tryz.prog.cellsOf 89 = 45 := by kernel_rfl

abbrev laidU : List (String × DataW Unit) := [("errors.errorType", Rows.laid_errors_errorType), ("heron/runes.leads", Rows.laid_heron_runes_leads)]

theorem door_met (os : Os) (args : Array Value) : laidMetH Tryz.prog laidU ((World.doorLaid Tryz.prog 400 os).forCall (fun _ _ => 0) ⟨#[], args, []⟩).memory :=
  laidMetH_of_parts3 (fuel := 8) (laidMet_of_run' 8 (by kernel_rfl) (by kernel_rfl)) (by kernel_rfl) (by kernel_rfl)

section
variable {H : Type} {enc : TypeId × Value → H} {W : World} {base : Nat} {spare : Nat → Bool} {held : Bool}

set_option maxRecDepth 100000 in
theorem five_ints {fuel : Nat} {cs : List Value} {k0 k1 k2 k3 k4 : Int} {ps : List MemPlace}
    (h : DataW.trod enc Tryz.prog W base spare held fuel 88 cs = some (.agg [.lit (.int .i64 k0), .lit (.int .i64 k1), .lit (.int .i64 k2), .lit (.int .i64 k3), .lit (.int .i64 k4)], ps)) :
    cs = [.int .i64 k0, .int .i64 k1, .int .i64 k2, .int .i64 k3, .int .i64 k4] := by
  obtain ⟨xs, n, rfl, hx, hl, hxl, hel⟩ := DataW.trod_struct Tryz.underlying88 h
  rw [Tryz.cells88] at hl
  have e0 : DataW.trod enc Tryz.prog W base spare held n 3 ((cs.drop 0).take (Tryz.prog.cellsOf 3)) = xs[0]? := hel 0 _ rfl
  have e1 : DataW.trod enc Tryz.prog W base spare held n 3 ((cs.drop 1).take (Tryz.prog.cellsOf 3)) = xs[1]? := hel 1 _ rfl
  have e2 : DataW.trod enc Tryz.prog W base spare held n 3 ((cs.drop 2).take (Tryz.prog.cellsOf 3)) = xs[2]? := hel 2 _ rfl
  have e3 : DataW.trod enc Tryz.prog W base spare held n 3 ((cs.drop 3).take (Tryz.prog.cellsOf 3)) = xs[3]? := hel 3 _ rfl
  have e4 : DataW.trod enc Tryz.prog W base spare held n 3 ((cs.drop 4).take (Tryz.prog.cellsOf 3)) = xs[4]? := hel 4 _ rfl
  simp only [Prod.mk.injEq, DataW.agg.injEq] at hx
  match cs, hl, xs, hxl, hx with
  | [c0, c1, c2, c3, c4], _, [x0, x1, x2, x3, x4], _, hx =>
    simp only [List.map_cons, List.map_nil, List.cons.injEq, and_true] at hx
    simp only [Tryz.cells3, List.drop_zero, List.drop_succ_cons, List.take_succ_cons, List.take_zero, List.getElem?_cons_zero, List.getElem?_cons_succ] at e0 e1 e2 e3 e4
    obtain ⟨n0, a0, b0, _⟩ := DataW.trod_int Tryz.underlying3 e0
    obtain ⟨n1, a1, b1, _⟩ := DataW.trod_int Tryz.underlying3 e1
    obtain ⟨n2, a2, b2, _⟩ := DataW.trod_int Tryz.underlying3 e2
    obtain ⟨n3, a3, b3, _⟩ := DataW.trod_int Tryz.underlying3 e3
    obtain ⟨n4, a4, b4, _⟩ := DataW.trod_int Tryz.underlying3 e4
    subst b0; subst b1; subst b2; subst b3; subst b4
    simp at a0 a1 a2 a3 a4 hx
    obtain ⟨h0, h1, h2, h3, h4⟩ := hx.1
    subst a0; subst a1; subst a2; subst a3; subst a4
    subst h0; subst h1; subst h2; subst h3; subst h4
    rfl
end

theorem nine_parts {cs : List Value} (hl : cs.length = 45) : cs = (cs.drop (0 * 5)).take 5 ++ ((cs.drop (1 * 5)).take 5 ++ ((cs.drop (2 * 5)).take 5 ++ ((cs.drop (3 * 5)).take 5 ++ ((cs.drop (4 * 5)).take 5 ++ ((cs.drop (5 * 5)).take 5 ++ ((cs.drop (6 * 5)).take 5 ++ ((cs.drop (7 * 5)).take 5 ++ ((cs.drop (8 * 5)).take 5 ++ [])))))))) := by
  have e : ∀ i, cs.drop (i * 5) = (cs.drop (i * 5)).take 5 ++ cs.drop ((i + 1) * 5) := fun i => by
    rw [Nat.add_mul, Nat.one_mul, ← List.drop_drop, List.take_append_drop]
  have e9 : cs.drop ((8 + 1) * 5) = [] := by rw [List.drop_eq_nil_iff]; omega
  rw [← e9, ← e 8, ← e 7, ← e 6, ← e 5, ← e 4, ← e 3, ← e 2, ← e 1, ← e 0]
  rfl


set_option maxRecDepth 100000 in
theorem leads_of_laid {W : World} (h : laidMetH Tryz.prog laidU W) : ∃ e fr, W.heap[0]? = some (.cells leadsCells.toArray e fr) := by
  have h' : laidMet Tryz.prog [("heron/runes.leads", Rows.laid_heron_runes_leads)] W ∧ handlesMet Tryz.prog [("errors.errorType", Rows.laid_errors_errorType)] W := h
  obtain ⟨ps, ⟨g0, t0, cs0, f0, p0, q0, hg0, ht0, hv0, hd0, _⟩, _, _⟩ := h'.1
  obtain rfl := Option.some.inj (Tryz.gLeads.symm.trans hg0)
  obtain rfl := Option.some.inj (Tryz.tLeads.symm.trans ht0)
  obtain ⟨xs, n, rfl, hx, hl, hxl, hel⟩ := DataW.trod_array Tryz.underlying89 hd0
  rw [Tryz.cells89] at hl
  simp only [Rows.laid_heron_runes_leads, Prod.mk.injEq, DataW.agg.injEq] at hx
  have hcs : cs0.toList = leadsCells := by
    rw [nine_parts hl]
    match xs, hxl, hx, hel with
    | [x0, x1, x2, x3, x4, x5, x6, x7, x8], _, hx, hel =>
      have e0 := hel 0 (by decide)
      have e1 := hel 1 (by decide)
      have e2 := hel 2 (by decide)
      have e3 := hel 3 (by decide)
      have e4 := hel 4 (by decide)
      have e5 := hel 5 (by decide)
      have e6 := hel 6 (by decide)
      have e7 := hel 7 (by decide)
      have e8 := hel 8 (by decide)
      simp only [List.map_cons, List.map_nil, List.cons.injEq, and_true] at hx
      obtain ⟨⟨h0, h1, h2, h3, h4, h5, h6, h7, h8⟩, _⟩ := hx
      obtain ⟨x0, q0⟩ := x0; obtain ⟨x1, q1⟩ := x1; obtain ⟨x2, q2⟩ := x2; obtain ⟨x3, q3⟩ := x3; obtain ⟨x4, q4⟩ := x4
      obtain ⟨x5, q5⟩ := x5; obtain ⟨x6, q6⟩ := x6; obtain ⟨x7, q7⟩ := x7; obtain ⟨x8, q8⟩ := x8
      simp only at h0 h1 h2 h3 h4 h5 h6 h7 h8
      subst h0; subst h1; subst h2; subst h3; subst h4; subst h5; subst h6; subst h7; subst h8
      rw [Tryz.cells88] at e0 e1 e2 e3 e4 e5 e6 e7 e8
      rw [five_ints e0, five_ints e1, five_ints e2, five_ints e3, five_ints e4, five_ints e5, five_ints e6, five_ints e7, five_ints e8]
      rfl
  have hc2 : cs0 = leadsCells.toArray := by rw [← hcs]
  subst hc2
  unfold World.var? at hv0
  rw [hg0] at hv0
  simp only [Option.bind_some] at hv0
  split at hv0
  · rename_i cs e fr hh
    cases hv0
    exact ⟨e, fr, hh⟩
  · cases hv0
end Go.Proofs.YtmbgnmnaonjdgaaGreatDoor
