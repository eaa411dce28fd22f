/-
  NARROWER THAN 'FOR EVERY INPUT', by the rows' own cells (each row's printed sentence says how): TopLooked: laid · TopKept: laid · TopRunesByHand: laid · TopClassesByHand: laid.
  DERIVED. THE GIVEN ROWS OF THIS SEAT. 4 by the template 'for every input the law returns true; each argument reads behind the call as it read before'; 0 by the template 'total and deterministic' (their statements: YtmbgnmnaonjdgaaGreatDoorTotals.lean).
  GIVEN WITH THE SEED: the statements are not yours to turn. If you find one false, say at which input.
  Laid BY PROGRAM, IN A SANDBOX (cutbox-rows.mjs): the forced cells as the released guide's own fill.sh prints them over the translation 21cb74de755f8d22… (all of the seat's roots in one cut). By AI agents, Wed Nov 11 2026. No macro, syntax, notation, axiom, sorry.
-/
import Derived.Test.YtmbgnmnaonjdgaaGreatDoorChecked
import GoSem.Claim
import GoSem.ClaimJoined
import GoSem.ClaimMapViews
import Derived.JoinedTies
import Derived.KernelRfl
namespace Go.Proofs.YtmbgnmnaonjdgaaGreatDoor
/- THE CELL 'sum', in the pinned program and in every row, IS THE sha256 OF THE DUMP (.gsa) THAT YtmbgnmnaonjdgaaGreatDoorProg.lean LOADS. Nothing in Lean hashes anything: it is a label: what it is worth is what the hold of that sum in a sandbox is worth. -/
noncomputable def Tryz.pinned : Pinned := { name := "ytmbgnmnaonjdgaagreatdoor", sum := "21cb74de755f8d2250e6f32773bbe8fcecfbb1b4335fd9b71eb6c22e18f4ad83", checked := Tryz.checked }
namespace Rows
def none {H : Type} : Left H := { results := [], args := [] }

/- WHAT THE LISTED PACKAGE-LEVEL VARIABLES READ AS WHEN THE CALL BEGINS. Each datum BY PROGRAM (the guide's laid-datum.mjs) off the statement by which the dump's own 'gosem.cut.vars' lays the variable. In a bare row this is a premise. The card (YtmbgnmnaonjdgaaGreatDoorCards.lean) ties it to the program's text. -/
def laid_errors_errorType {H : Type} : DataW H := .iface "internal/reflectlite.rtype" (.agg [.ptr (.lit (.string [101, 114, 114, 111, 114]))])
def laid_heron_runes_leads {H : Type} : DataW H := .agg [.agg [.lit (.int .i64 0), .lit (.int .i64 127), .lit (.int .i64 1), .lit (.int .i64 0), .lit (.int .i64 0)], .agg [.lit (.int .i64 194), .lit (.int .i64 223), .lit (.int .i64 2), .lit (.int .i64 128), .lit (.int .i64 191)], .agg [.lit (.int .i64 224), .lit (.int .i64 224), .lit (.int .i64 3), .lit (.int .i64 160), .lit (.int .i64 191)], .agg [.lit (.int .i64 225), .lit (.int .i64 236), .lit (.int .i64 3), .lit (.int .i64 128), .lit (.int .i64 191)], .agg [.lit (.int .i64 237), .lit (.int .i64 237), .lit (.int .i64 3), .lit (.int .i64 128), .lit (.int .i64 159)], .agg [.lit (.int .i64 238), .lit (.int .i64 239), .lit (.int .i64 3), .lit (.int .i64 128), .lit (.int .i64 191)], .agg [.lit (.int .i64 240), .lit (.int .i64 240), .lit (.int .i64 4), .lit (.int .i64 144), .lit (.int .i64 191)], .agg [.lit (.int .i64 241), .lit (.int .i64 243), .lit (.int .i64 4), .lit (.int .i64 128), .lit (.int .i64 191)], .agg [.lit (.int .i64 244), .lit (.int .i64 244), .lit (.int .i64 4), .lit (.int .i64 128), .lit (.int .i64 143)]]

/-- 'herontop.TopLooked': WHATEVER THE INPUT: true; the input reads as it did. -/
def topLookedSpec : ChangeSpec := { name := "topLooked", fn := fun _ => fun
  | [d1, d2] => { results := [.lit (.bool true)], args := [d1, d2] }
  | _ => none }
def topLookedRow : OpenClaim := { program := "ytmbgnmnaonjdgaagreatdoor", sum := "21cb74de755f8d2250e6f32773bbe8fcecfbb1b4335fd9b71eb6c22e18f4ad83", func := "heron/herontop.TopLooked", spec := "topLooked", inPlace := ["internal/reflectlite.ValueOf", "(internal/reflectlite.Value).Type", "(internal/reflectlite.Value).IsNil", "internal/reflectlite.TypeOf", "(internal/reflectlite.Value).Elem", "(internal/reflectlite.Value).Set"], unfollowed := true, recurses := true, named := ["errors.errorType", "heron/runes.leads"], plainKeys := false, apart := false, laid := [("errors.errorType", laid_errors_errorType), ("heron/runes.leads", laid_heron_runes_leads)] }
def TopLookedSaid : Prop := topLookedRow.holds Tryz.pinned (OpenSpec.ofChange topLookedSpec)

/-- ITS FALSE NEIGHBOUR: 'it returns false'. Refute it at one input. -/
def topLookedWrong : ChangeSpec := { name := "topLooked", fn := fun _ => fun
  | [d1, d2] => { results := [.lit (.bool false)], args := [d1, d2] }
  | _ => none }
def TopLookedWrongFalsely : Prop := topLookedRow.holds Tryz.pinned (OpenSpec.ofChange topLookedWrong)

/-- 'herontop.TopKept': WHATEVER THE INPUT: true; the input reads as it did. -/
def topKeptSpec : ChangeSpec := { name := "topKept", fn := fun _ => fun
  | [d1, d2] => { results := [.lit (.bool true)], args := [d1, d2] }
  | _ => none }
def topKeptRow : OpenClaim := { program := "ytmbgnmnaonjdgaagreatdoor", sum := "21cb74de755f8d2250e6f32773bbe8fcecfbb1b4335fd9b71eb6c22e18f4ad83", func := "heron/herontop.TopKept", spec := "topKept", inPlace := ["internal/reflectlite.ValueOf", "(internal/reflectlite.Value).Type", "(internal/reflectlite.Value).IsNil", "internal/reflectlite.TypeOf", "(internal/reflectlite.Value).Elem", "(internal/reflectlite.Value).Set"], unfollowed := true, recurses := true, named := ["errors.errorType", "heron/runes.leads"], plainKeys := false, apart := false, laid := [("errors.errorType", laid_errors_errorType), ("heron/runes.leads", laid_heron_runes_leads)] }
def TopKeptSaid : Prop := topKeptRow.holds Tryz.pinned (OpenSpec.ofChange topKeptSpec)

/-- ITS FALSE NEIGHBOUR: 'it returns false'. Refute it at one input. -/
def topKeptWrong : ChangeSpec := { name := "topKept", fn := fun _ => fun
  | [d1, d2] => { results := [.lit (.bool false)], args := [d1, d2] }
  | _ => none }
def TopKeptWrongFalsely : Prop := topKeptRow.holds Tryz.pinned (OpenSpec.ofChange topKeptWrong)

/-- 'herontop.TopRunesByHand': WHATEVER THE INPUT: true; the input reads as it did. -/
def topRunesByHandSpec : ChangeSpec := { name := "topRunesByHand", fn := fun _ => fun
  | [d1, d2] => { results := [.lit (.bool true)], args := [d1, d2] }
  | _ => none }
def topRunesByHandRow : OpenClaim := { program := "ytmbgnmnaonjdgaagreatdoor", sum := "21cb74de755f8d2250e6f32773bbe8fcecfbb1b4335fd9b71eb6c22e18f4ad83", func := "heron/herontop.TopRunesByHand", spec := "topRunesByHand", inPlace := ["internal/reflectlite.ValueOf", "(internal/reflectlite.Value).Type", "(internal/reflectlite.Value).IsNil", "internal/reflectlite.TypeOf", "(internal/reflectlite.Value).Elem", "(internal/reflectlite.Value).Set"], unfollowed := true, recurses := true, named := ["errors.errorType", "heron/runes.leads"], plainKeys := false, apart := false, laid := [("errors.errorType", laid_errors_errorType), ("heron/runes.leads", laid_heron_runes_leads)] }
def TopRunesByHandSaid : Prop := topRunesByHandRow.holds Tryz.pinned (OpenSpec.ofChange topRunesByHandSpec)

/-- ITS FALSE NEIGHBOUR: 'it returns false'. Refute it at one input. -/
def topRunesByHandWrong : ChangeSpec := { name := "topRunesByHand", fn := fun _ => fun
  | [d1, d2] => { results := [.lit (.bool false)], args := [d1, d2] }
  | _ => none }
def TopRunesByHandWrongFalsely : Prop := topRunesByHandRow.holds Tryz.pinned (OpenSpec.ofChange topRunesByHandWrong)

/-- 'herontop.TopClassesByHand': WHATEVER THE INPUT: true; the input reads as it did. -/
def topClassesByHandSpec : ChangeSpec := { name := "topClassesByHand", fn := fun _ => fun
  | [d1, d2] => { results := [.lit (.bool true)], args := [d1, d2] }
  | _ => none }
def topClassesByHandRow : OpenClaim := { program := "ytmbgnmnaonjdgaagreatdoor", sum := "21cb74de755f8d2250e6f32773bbe8fcecfbb1b4335fd9b71eb6c22e18f4ad83", func := "heron/herontop.TopClassesByHand", spec := "topClassesByHand", inPlace := ["internal/reflectlite.ValueOf", "(internal/reflectlite.Value).Type", "(internal/reflectlite.Value).IsNil", "internal/reflectlite.TypeOf", "(internal/reflectlite.Value).Elem", "(internal/reflectlite.Value).Set"], unfollowed := true, recurses := true, named := ["errors.errorType", "heron/runes.leads"], plainKeys := false, apart := false, laid := [("errors.errorType", laid_errors_errorType), ("heron/runes.leads", laid_heron_runes_leads)] }
def TopClassesByHandSaid : Prop := topClassesByHandRow.holds Tryz.pinned (OpenSpec.ofChange topClassesByHandSpec)

/-- ITS FALSE NEIGHBOUR: 'it returns false'. Refute it at one input. -/
def topClassesByHandWrong : ChangeSpec := { name := "topClassesByHand", fn := fun _ => fun
  | [d1, d2] => { results := [.lit (.bool false)], args := [d1, d2] }
  | _ => none }
def TopClassesByHandWrongFalsely : Prop := topClassesByHandRow.holds Tryz.pinned (OpenSpec.ofChange topClassesByHandWrong)

/- THE SECOND FORM. 'bulk': how many values and letters a reading holds, each counted each time it is reached (what is shared counts as often as it is met; a slice's spare places count too). A statement '..UptoSaid' is the law's where the arguments, and the package variables that the reading takes, are together of bulk at most 1048576: NARROWER than '..Said'. Prove '..Said' where nothing that the law and all that it calls make is longer than what came in: it says more and counts as full. Else prove '..UptoSaid'. A law counts once. -/
mutual
def uptoBulk {H : Type} : DataW H → Nat
  | .lit (.string bytes) => bytes.length + 1
  | .lit _ => 1
  | .nil => 1
  | .ptr d => uptoBulk d + 1
  | .slice elems spare => uptoBulkAll elems + uptoBulkAll spare + 1
  | .agg parts => uptoBulkAll parts + 1
  | .iface _ d => uptoBulk d + 1
  | .map entries => uptoBulkEntries entries + 1
  | .held _ => 1
def uptoBulkAll {H : Type} : List (DataW H) → Nat
  | [] => 0
  | d :: r => uptoBulk d + uptoBulkAll r
def uptoBulkEntries {H : Type} : List (Lit × DataW H) → Nat
  | [] => 0
  | x :: r => uptoBulkEntry x + uptoBulkEntries r
def uptoBulkEntry {H : Type} : Lit × DataW H → Nat
  | (.string bytes, d) => bytes.length + uptoBulk d + 1
  | (_, d) => uptoBulk d + 1
 end
def uptoSmall : (H : Type) → List (DataW H) → Bool := fun _ ds => decide (uptoBulkAll ds ≤ 1048576)
def OpenSpec.upto (s : _root_.Go.ChangeSpec) : _root_.Go.OpenSpec := { _root_.Go.OpenSpec.ofChange s with cond := some uptoSmall }

/-- 'herontop.TopLooked', WHERE WHAT IT READS IS OF BULK AT MOST 1048576: true; the input reads as it did. -/
def topLookedUptoRow : OpenClaim := { program := "ytmbgnmnaonjdgaagreatdoor", sum := "21cb74de755f8d2250e6f32773bbe8fcecfbb1b4335fd9b71eb6c22e18f4ad83", func := "heron/herontop.TopLooked", spec := "topLooked", inPlace := ["internal/reflectlite.ValueOf", "(internal/reflectlite.Value).Type", "(internal/reflectlite.Value).IsNil", "internal/reflectlite.TypeOf", "(internal/reflectlite.Value).Elem", "(internal/reflectlite.Value).Set"], unfollowed := true, recurses := true, named := ["errors.errorType", "heron/runes.leads"], plainKeys := false, apart := false, laid := [("errors.errorType", laid_errors_errorType), ("heron/runes.leads", laid_heron_runes_leads)], narrowed := true }
def TopLookedUptoSaid : Prop := topLookedUptoRow.holds Tryz.pinned (OpenSpec.upto topLookedSpec)

/-- 'herontop.TopKept', WHERE WHAT IT READS IS OF BULK AT MOST 1048576: true; the input reads as it did. -/
def topKeptUptoRow : OpenClaim := { program := "ytmbgnmnaonjdgaagreatdoor", sum := "21cb74de755f8d2250e6f32773bbe8fcecfbb1b4335fd9b71eb6c22e18f4ad83", func := "heron/herontop.TopKept", spec := "topKept", inPlace := ["internal/reflectlite.ValueOf", "(internal/reflectlite.Value).Type", "(internal/reflectlite.Value).IsNil", "internal/reflectlite.TypeOf", "(internal/reflectlite.Value).Elem", "(internal/reflectlite.Value).Set"], unfollowed := true, recurses := true, named := ["errors.errorType", "heron/runes.leads"], plainKeys := false, apart := false, laid := [("errors.errorType", laid_errors_errorType), ("heron/runes.leads", laid_heron_runes_leads)], narrowed := true }
def TopKeptUptoSaid : Prop := topKeptUptoRow.holds Tryz.pinned (OpenSpec.upto topKeptSpec)

/-- 'herontop.TopRunesByHand', WHERE WHAT IT READS IS OF BULK AT MOST 1048576: true; the input reads as it did. -/
def topRunesByHandUptoRow : OpenClaim := { program := "ytmbgnmnaonjdgaagreatdoor", sum := "21cb74de755f8d2250e6f32773bbe8fcecfbb1b4335fd9b71eb6c22e18f4ad83", func := "heron/herontop.TopRunesByHand", spec := "topRunesByHand", inPlace := ["internal/reflectlite.ValueOf", "(internal/reflectlite.Value).Type", "(internal/reflectlite.Value).IsNil", "internal/reflectlite.TypeOf", "(internal/reflectlite.Value).Elem", "(internal/reflectlite.Value).Set"], unfollowed := true, recurses := true, named := ["errors.errorType", "heron/runes.leads"], plainKeys := false, apart := false, laid := [("errors.errorType", laid_errors_errorType), ("heron/runes.leads", laid_heron_runes_leads)], narrowed := true }
def TopRunesByHandUptoSaid : Prop := topRunesByHandUptoRow.holds Tryz.pinned (OpenSpec.upto topRunesByHandSpec)

/-- 'herontop.TopClassesByHand', WHERE WHAT IT READS IS OF BULK AT MOST 1048576: true; the input reads as it did. -/
def topClassesByHandUptoRow : OpenClaim := { program := "ytmbgnmnaonjdgaagreatdoor", sum := "21cb74de755f8d2250e6f32773bbe8fcecfbb1b4335fd9b71eb6c22e18f4ad83", func := "heron/herontop.TopClassesByHand", spec := "topClassesByHand", inPlace := ["internal/reflectlite.ValueOf", "(internal/reflectlite.Value).Type", "(internal/reflectlite.Value).IsNil", "internal/reflectlite.TypeOf", "(internal/reflectlite.Value).Elem", "(internal/reflectlite.Value).Set"], unfollowed := true, recurses := true, named := ["errors.errorType", "heron/runes.leads"], plainKeys := false, apart := false, laid := [("errors.errorType", laid_errors_errorType), ("heron/runes.leads", laid_heron_runes_leads)], narrowed := true }
def TopClassesByHandUptoSaid : Prop := topClassesByHandUptoRow.holds Tryz.pinned (OpenSpec.upto topClassesByHandSpec)

end Rows
end Go.Proofs.YtmbgnmnaonjdgaaGreatDoor
