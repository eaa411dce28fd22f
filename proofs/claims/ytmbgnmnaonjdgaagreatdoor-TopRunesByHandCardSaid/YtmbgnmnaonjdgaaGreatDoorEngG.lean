/- PART OF A PROOF over the given program: EngG. See the last text of the claim for the statement. -/
import Derived.Test.YtmbgnmnaonjdgaaGreatDoorEngF
namespace Go.Eng
open Go

section
variable {P : Program} {G : List Nat} {K : Kr} {w : World} {H : AH} {ρ : Operand → Option Value} {ρ' : Operand → Value}
variable {dst : Option Tmp} {type : TypeId} {pos : String} {after : Array Edge} {guard : Option (Nat × Bool)} {id : Nat} {v : Value} {blk : Option Blk}

theorem lenA_sound (hR : Rel G K H.get w) {t : TypeId} {x x' : Value} {n : Nat} (hx : VRel K x x') (h : lenA P H t x = some n) {tys : Array TypeId} (ht : tys[0]? = some t) (ty : TypeId) :
    (Builtin.len_ tys ty #[x']).run P w = .ok (.int .i64 n) w := by
  unfold lenA at h
  split at h
  · rename_i s hd
    cases hx; simp only [Option.some.injEq] at h; subst h
    simp [Builtin.len_, ht, run_und hd, goInt]
  · rename_i e a n' c hd
    simp only [Option.some.injEq] at h; subst h
    cases hx <;> simp [Builtin.len_, ht, run_und hd, goInt]
  · rename_i k e hd
    cases hx; simp only [Option.some.injEq] at h; subst h
    simp [Builtin.len_, ht, run_und hd, goInt]
  · rename_i k e r hd
    cases hx with
    | map b hb =>
    split at h
    · rename_i es clock hbk
      simp only [Option.some.injEq] at h; subst h
      have := hR.blk r
      rw [hbk] at this
      obtain ⟨_, he, _, hh⟩ := this
      subst he
      simp [Builtin.len_, ht, run_und hd, goInt, getObj, Sem.run, hh]
    · simp at h
  · rename_i m e hd
    simp only [Option.some.injEq] at h; subst h
    simp [Builtin.len_, ht, run_und hd, goInt]
  · simp at h

theorem args_of_list {args : Array Operand} {l : List Operand} (h : args.toList = l) : args = l.toArray := by rw [← h]

theorem run_builtin_value (f : Sem Value) (r : Value) (h : f.run P w = .ok r w) : ((do pure (.value (← f))) : Sem Next).run P w = .ok (.value r) w := by
  simp only [Sem.run_bind, h, Result.andThen_ok, Sem.run_pure]

theorem fl_call (hρ : RhoRel K ρ ρ') (hR : Rel G K H.get w) {c : Call} (h : evalFloat P ⟨dst, .call c, type, pos, after, guard⟩ ρ H id = some (v, blk)) :
    FRes P ρ' ⟨dst, .call c, type, pos, after, guard⟩ K w id v blk := by
  obtain ⟨callee, args, tys⟩ := c
  cases callee with
  | value f => simp [evalFloat] at h
  | invoke r m => simp [evalFloat] at h
  | builtin b =>
    cases b <;> simp only [evalFloat, reduceCtorEq] at h
    case len =>
      split at h
      · rename_i x t ha ht
        split at h
        · rename_i u hu
          split at h
          · rename_i n hn
            cases h
            obtain rfl := args_of_list ha
            refine .val ?_ (.int _ _)
            have := lenA_sound hR (hρ _ _ hu) hn ht type
            simp only [execOp, resolve, Sem.run_bind, Sem.run_pure, Result.andThen_ok, invoke, builtin]
            simp [this]
          · simp at h
        · simp at h
      · simp at h
    case max =>
      split at h
      · rename_i k a k' b hv
        cases h
        have hl := vals_sound hρ hv
        have : ∃ x y, args.toList = [x, y] ∧ ρ' x = .int k a ∧ ρ' y = .int k' b := by
          match hal : args.toList, hl with
          | [x, y], .cons h1 (.cons h2 .nil) =>
            generalize hq1 : ρ' x = q1 at h1; generalize hq2 : ρ' y = q2 at h2
            cases h1; cases h2
            exact ⟨x, y, rfl, hq1, hq2⟩
        obtain ⟨x, y, hal, h1, h2⟩ := this
        obtain rfl := args_of_list hal
        refine .val ?_ (.int _ _)
        simp [execOp, resolve, invoke, builtin, Builtin.max_, h1, h2, Builtin.max2]
      · simp at h
    case min =>
      split at h
      · rename_i k a k' b hv
        cases h
        have hl := vals_sound hρ hv
        have : ∃ x y, args.toList = [x, y] ∧ ρ' x = .int k a ∧ ρ' y = .int k' b := by
          match hal : args.toList, hl with
          | [x, y], .cons h1 (.cons h2 .nil) =>
            generalize hq1 : ρ' x = q1 at h1; generalize hq2 : ρ' y = q2 at h2
            cases h1; cases h2
            exact ⟨x, y, rfl, hq1, hq2⟩
        obtain ⟨x, y, hal, h1, h2⟩ := this
        obtain rfl := args_of_list hal
        refine .val ?_ (.int _ _)
        simp [execOp, resolve, invoke, builtin, Builtin.min_, h1, h2, Builtin.min2]
      · simp at h

/-- EVERY FLOATER. -/
theorem float_sound (hρ : RhoRel K ρ ρ') (hR : Rel G K H.get w) {o : Oper} (h : evalFloat P o ρ H id = some (v, blk)) : FRes P ρ' o K w id v blk := by
  obtain ⟨dst, op, type, pos, after, guard⟩ := o
  cases op
  case move => exact fl_move hρ h
  case assign => exact fl_assign hρ h
  case pick => exact fl_pick hρ h
  case alloc => exact fl_alloc h
  case box => exact fl_box hρ h
  case build => exact fl_build hρ h
  case buildSlice => exact fl_buildSlice hρ h
  case load => exact fl_load hρ hR h
  case nilCheck => exact fl_nilCheck hρ h
  case binOp => exact fl_binOp hρ h
  case unOp => exact fl_unOp hρ h
  case convert => exact fl_convert hρ h
  case makeInterface => exact fl_makeInterface hρ h
  case makeFunc => exact fl_makeFunc hρ h
  case makeMap => exact fl_makeMap h
  case makeSlice => exact fl_makeSlice hρ h
  case slice => exact fl_slice hρ hR h
  case fieldAddr => exact fl_fieldAddr hρ h
  case field => exact fl_field hρ h
  case indexAddr => exact fl_indexAddr hρ h
  case index => exact fl_index hρ h
  case extract => exact fl_extract hρ h
  case call => exact fl_call hρ hR h
  all_goals simp [evalFloat] at h

/-- a floater that does not look at memory does not ask where it stands. -/
theorem float_noMem {o : Oper} (hm : readsMem o = false) (H H' : AH) : evalFloat P o ρ H id = evalFloat P o ρ H' id := by
  obtain ⟨dst, op, type, pos, after, guard⟩ := o
  cases op <;> simp only [readsMem, reduceCtorEq] at hm <;> first | rfl | skip
  case makeMap t r => cases r <;> rfl
  case call c =>
    obtain ⟨callee, args, tys⟩ := c
    cases callee with
    | value f => rfl
    | invoke r m => rfl
    | builtin b => cases b <;> first | rfl | simp at hm
end
end Go.Eng
