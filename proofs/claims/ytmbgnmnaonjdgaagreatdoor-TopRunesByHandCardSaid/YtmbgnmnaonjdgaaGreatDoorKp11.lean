/- PART OF A PROOF over the given program: Kp11. See the last text of the claim for the statement. -/
import Derived.Test.YtmbgnmnaonjdgaaGreatDoorKp10
namespace Go.Proofs.YtmbgnmnaonjdgaaGreatDoor
open Go Go.RowKit Go.Own

theorem Row.free {w : World} {e : TypeId} {v : Value} {l : List Value} (h : Row w e v l) {b : Nat} (hb : v.ownBlock = some b) (i : Nat) : w.frozen? ⟨b, i, none⟩ = false := by
  rcases h with ⟨rfl, rfl⟩ | ⟨b', cap, cur, rfl, hh, _⟩
  · simp [Value.ownBlock] at hb
  · simp only [Value.ownBlock, Option.some.injEq] at hb
    subst hb
    simp [World.frozen?, hh]

theorem StackAt.only {w w' : World} {S : Nat} {v : Value} {m : Int} {zs : List Int} {ks : List Nat} (h : StackAt w S v m zs) (hO : Only ks w w') (hS : S ∉ ks) (hv : ∀ b, v.ownBlock = some b → b ∉ ks) : StackAt w' S v m zs :=
  ⟨hO.cell h.c0 hS h.lt, hO.cell h.c1 hS h.lt, hO.frozen h.f0 hS h.lt, hO.frozen h.f1 hS h.lt, h.row.only hO hv, h.ne⟩

/-- WHAT A SET IS: its struct at S, its list's row v, its places' row at A. -/
structure SetAt (w : World) (S A room : Nat) (v : Value) (l ats : List Int) : Prop where
  s0 : w.cell? ⟨S, 0, none⟩ = some v
  s1 : w.cell? ⟨S, 1, none⟩ = some (.slice (some ⟨A, 0, none⟩) room room)
  f0 : w.frozen? ⟨S, 0, none⟩ = false
  arow : Row w 3 (.slice (some ⟨A, 0, none⟩) room room) (ats.map (.int .i64))
  srow : Row w 3 v (l.map (.int .i64))
  inv : ∀ (k : Nat) x, l[k]? = some x → 0 ≤ x ∧ ats[x.toNat]? = some (k : Int)
  pos : ∀ a ∈ ats, 0 ≤ a

theorem cell_lt {w : World} {b i : Nat} {v : Value} (h : w.cell? ⟨b, i, none⟩ = some v) : b < w.heap.size := by
  rcases Nat.lt_or_ge b w.heap.size with h' | h'
  · exact h'
  · simp [World.cell?, Array.getElem?_eq_none h'] at h

theorem SetAt.only {w w' : World} {S A room : Nat} {v : Value} {l ats : List Int} {ks : List Nat} (h : SetAt w S A room v l ats) (hO : Only ks w w') (hS : S ∉ ks) (hA : A ∉ ks) (hv : ∀ b, v.ownBlock = some b → b ∉ ks) : SetAt w' S A room v l ats :=
  ⟨hO.cell h.s0 hS (cell_lt h.s0), hO.cell h.s1 hS (cell_lt h.s0), hO.frozen h.f0 hS (cell_lt h.s0), h.arow.only hO (fun b hb => by simp only [Value.ownBlock, Option.some.injEq] at hb; rw [← hb]; exact hA), h.srow.only hO hv, h.inv, h.pos⟩

/-- the raw numbers: the struct at R. -/
structure RawAt (w : World) (R : Nat) (rv : Value) (K : Nat) : Prop where
  r0 : w.cell? ⟨R, 0, none⟩ = some rv
  r1 : ∃ k : Nat, k ≤ K ∧ w.cell? ⟨R, 1, none⟩ = some (.int .i64 k)
  f1 : w.frozen? ⟨R, 1, none⟩ = false

theorem RawAt.only {w w' : World} {R : Nat} {rv : Value} {K : Nat} {ks : List Nat} (h : RawAt w R rv K) (hO : Only ks w w') (hR : R ∉ ks) : RawAt w' R rv K := by
  obtain ⟨k, hk, h1⟩ := h.r1
  exact ⟨hO.cell h.r0 hR (cell_lt h.r0), ⟨k, hk, hO.cell h1 hR (cell_lt h.r0)⟩, hO.frozen h.f1 hR (cell_lt h.r0)⟩

/-- ALL THAT IS KEPT. The owners, in their order: R, S, T, A, the set's list, the stack's, the two plain rows'. -/
structure Kept (W : World) (R S T A room : Nat) (rv : Value) (w : World) (K : Nat) (v u p q : Value) (l ats k l2 k2 : List Int) (m : Int) : Prop where
  bel : Below W.heap.size W w
  raw : RawAt w R rv K
  set : SetAt w S A room v l ats
  stk : StackAt w T u m k
  prow : Row w 3 p (l2.map (.int .i64))
  qrow : Row w 3 q (k2.map (.int .i64))
  sep : Sep W.heap.size w.heap.size [some R, some S, some T, some A, v.ownBlock, u.ownBlock, p.ownBlock, q.ownBlock]

section
variable {W : World} {R S T A room : Nat} {rv : Value} {w : World} {K : Nat} {v u p q : Value} {l ats k l2 k2 : List Int} {m : Int}

theorem Kept.size (h : Kept W R S T A room rv w K v u p q l ats k l2 k2 m) : W.heap.size ≤ w.heap.size := h.bel.size

theorem Kept.below {w' : World} {ks is : List Nat} (h : Kept W R S T A room rv w K v u p q l ats k l2 k2 m) (hO : Only ks w w') (hk : ∀ b ∈ ks, ∃ i ∈ is, [some R, some S, some T, some A, v.ownBlock, u.ownBlock, p.ownBlock, q.ownBlock][i]? = some (some b)) : Below W.heap.size W w' :=
  h.bel.trans (hO.below h.size fun b hb => by
    obtain ⟨i, _, hi⟩ := hk b hb
    exact (h.sep.get hi).1)

/-- nothing that is kept turns. -/
theorem Kept.same {w' : World} (h : Kept W R S T A room rv w K v u p q l ats k l2 k2 m) (hO : Only [] w w') : Kept W R S T A room rv w' K v u p q l ats k l2 k2 m :=
  ⟨h.below (is := []) hO (by simp), h.raw.only hO (by simp), h.set.only hO (by simp) (by simp) (by simp), h.stk.only hO (by simp) (by simp), h.prow.only hO (by simp), h.qrow.only hO (by simp), h.sep.grow hO.size⟩

/-- the raw numbers go on. -/
theorem Kept.rawStep {w' : World} {K' : Nat} (h : Kept W R S T A room rv w K v u p q l ats k l2 k2 m) (hO : Only [R] w w') (hr : RawAt w' R rv K') : Kept W R S T A room rv w' K' v u p q l ats k l2 k2 m := by
  have hk : ∀ b ∈ [R], ∃ i ∈ [0], [some R, some S, some T, some A, v.ownBlock, u.ownBlock, p.ownBlock, q.ownBlock][i]? = some (some b) := fun b hb => ⟨0, by simp, by simp at hb; simp [hb]⟩
  exact ⟨h.below hO hk, hr,
    h.set.only hO (h.sep.apart (i := 1) rfl rfl (by decide) hk) (h.sep.apart (i := 3) rfl rfl (by decide) hk) (fun b hb => h.sep.apart (i := 4) rfl hb (by decide) hk),
    h.stk.only hO (h.sep.apart (i := 2) rfl rfl (by decide) hk) (fun b hb => h.sep.apart (i := 5) rfl hb (by decide) hk),
    h.prow.only hO (fun b hb => h.sep.apart (i := 6) rfl hb (by decide) hk), h.qrow.only hO (fun b hb => h.sep.apart (i := 7) rfl hb (by decide) hk), h.sep.grow hO.size⟩

theorem turned_of {n : Nat} {w : World} {v v' : Value} (h : Moved w v v') (hn : n = w.heap.size) : Turned n v.ownBlock v'.ownBlock := by
  subst hn; exact h

theorem Row.lt' {w : World} {e : TypeId} {v : Value} {l : List Value} (h : Row w e v l) : ∀ b, v.ownBlock = some b → b < w.heap.size := fun _ hb => h.lt hb

/-- the set turns. -/
theorem Kept.setStep {w' : World} {v' : Value} {l' ats' : List Int} (h : Kept W R S T A room rv w K v u p q l ats k l2 k2 m) (hO : Only (S :: A :: v.ownBlock.toList) w w') (hM : Moved w v v') (hs : SetAt w' S A room v' l' ats') : Kept W R S T A room rv w' K v' u p q l' ats' k l2 k2 m := by
  have hk : ∀ b ∈ S :: A :: v.ownBlock.toList, ∃ i ∈ [1, 3, 4], [some R, some S, some T, some A, v.ownBlock, u.ownBlock, p.ownBlock, q.ownBlock][i]? = some (some b) := fun b hb => by
    rcases List.mem_cons.1 hb with rfl | hb
    · exact ⟨1, by simp, rfl⟩
    · rcases List.mem_cons.1 hb with rfl | hb
      · exact ⟨3, by simp, rfl⟩
      · exact ⟨4, by simp, by simpa using hb⟩
  exact ⟨h.below hO hk, h.raw.only hO (h.sep.apart (i := 0) rfl rfl (by decide) hk), hs,
    h.stk.only hO (h.sep.apart (i := 2) rfl rfl (by decide) hk) (fun b hb => h.sep.apart (i := 5) rfl hb (by decide) hk),
    h.prow.only hO (fun b hb => h.sep.apart (i := 6) rfl hb (by decide) hk), h.qrow.only hO (fun b hb => h.sep.apart (i := 7) rfl hb (by decide) hk),
    h.sep.set (i := 4) rfl (turned_of hM rfl) h.size hO.size (Row.lt' hs.srow)⟩

/-- the stack turns. -/
theorem Kept.stkStep {w' : World} {u' : Value} {k' : List Int} {m' : Int} (h : Kept W R S T A room rv w K v u p q l ats k l2 k2 m) (hO : Only (T :: u.ownBlock.toList) w w') (hM : Moved w u u') (hs : StackAt w' T u' m' k') : Kept W R S T A room rv w' K v u' p q l ats k' l2 k2 m' := by
  have hk : ∀ b ∈ T :: u.ownBlock.toList, ∃ i ∈ [2, 5], [some R, some S, some T, some A, v.ownBlock, u.ownBlock, p.ownBlock, q.ownBlock][i]? = some (some b) := fun b hb => by
    rcases List.mem_cons.1 hb with rfl | hb
    · exact ⟨2, by simp, rfl⟩
    · exact ⟨5, by simp, by simpa using hb⟩
  exact ⟨h.below hO hk, h.raw.only hO (h.sep.apart (i := 0) rfl rfl (by decide) hk),
    h.set.only hO (h.sep.apart (i := 1) rfl rfl (by decide) hk) (h.sep.apart (i := 3) rfl rfl (by decide) hk) (fun b hb => h.sep.apart (i := 4) rfl hb (by decide) hk), hs,
    h.prow.only hO (fun b hb => h.sep.apart (i := 6) rfl hb (by decide) hk), h.qrow.only hO (fun b hb => h.sep.apart (i := 7) rfl hb (by decide) hk),
    h.sep.set (i := 5) rfl (turned_of hM rfl) h.size hO.size (Row.lt' hs.row)⟩

/-- the first plain row turns. -/
theorem Kept.pStep {w' : World} {p' : Value} {l2' : List Int} (h : Kept W R S T A room rv w K v u p q l ats k l2 k2 m) (hO : Only p.ownBlock.toList w w') (hM : Moved w p p') (hs : Row w' 3 p' (l2'.map (.int .i64))) : Kept W R S T A room rv w' K v u p' q l ats k l2' k2 m := by
  have hk : ∀ b ∈ p.ownBlock.toList, ∃ i ∈ [6], [some R, some S, some T, some A, v.ownBlock, u.ownBlock, p.ownBlock, q.ownBlock][i]? = some (some b) := fun b hb => ⟨6, by simp, by simpa using hb⟩
  exact ⟨h.below hO hk, h.raw.only hO (h.sep.apart (i := 0) rfl rfl (by decide) hk),
    h.set.only hO (h.sep.apart (i := 1) rfl rfl (by decide) hk) (h.sep.apart (i := 3) rfl rfl (by decide) hk) (fun b hb => h.sep.apart (i := 4) rfl hb (by decide) hk),
    h.stk.only hO (h.sep.apart (i := 2) rfl rfl (by decide) hk) (fun b hb => h.sep.apart (i := 5) rfl hb (by decide) hk), hs,
    h.qrow.only hO (fun b hb => h.sep.apart (i := 7) rfl hb (by decide) hk),
    h.sep.set (i := 6) rfl (turned_of hM rfl) h.size hO.size (Row.lt' hs)⟩

/-- the second plain row turns. -/
theorem Kept.qStep {w' : World} {q' : Value} {k2' : List Int} (h : Kept W R S T A room rv w K v u p q l ats k l2 k2 m) (hO : Only q.ownBlock.toList w w') (hM : Moved w q q') (hs : Row w' 3 q' (k2'.map (.int .i64))) : Kept W R S T A room rv w' K v u p q' l ats k l2 k2' m := by
  have hk : ∀ b ∈ q.ownBlock.toList, ∃ i ∈ [7], [some R, some S, some T, some A, v.ownBlock, u.ownBlock, p.ownBlock, q.ownBlock][i]? = some (some b) := fun b hb => ⟨7, by simp, by simpa using hb⟩
  exact ⟨h.below hO hk, h.raw.only hO (h.sep.apart (i := 0) rfl rfl (by decide) hk),
    h.set.only hO (h.sep.apart (i := 1) rfl rfl (by decide) hk) (h.sep.apart (i := 3) rfl rfl (by decide) hk) (fun b hb => h.sep.apart (i := 4) rfl hb (by decide) hk),
    h.stk.only hO (h.sep.apart (i := 2) rfl rfl (by decide) hk) (fun b hb => h.sep.apart (i := 5) rfl hb (by decide) hk),
    h.prow.only hO (fun b hb => h.sep.apart (i := 6) rfl hb (by decide) hk), hs,
    h.sep.set (i := 7) rfl (turned_of hM rfl) h.size hO.size (Row.lt' hs)⟩
end
end Go.Proofs.YtmbgnmnaonjdgaaGreatDoor
