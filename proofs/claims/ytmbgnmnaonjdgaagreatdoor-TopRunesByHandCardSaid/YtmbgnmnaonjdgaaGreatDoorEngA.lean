/- PART OF A PROOF over the given program: EngA. See the last text of the claim for the statement. -/
import Derived.Orders
import Derived.Defers
import Derived.LoopN
import Derived.Below
namespace Go.Eng
open Go

/-! ### trees -/
inductive T (α : Type) where
  | leaf (a : α)
  | node (l r : T α)

def T.get {α : Type} : T α → Nat → Option α
  | .leaf a, k => match k with | 0 => some a | _ + 1 => none
  | .node l r, k => bif Nat.beq (k % 2) 0 then l.get (k / 2) else r.get (k / 2)

def T.set {α : Type} : T α → Nat → α → Option (T α)
  | .leaf _, k, v => match k with | 0 => some (.leaf v) | _ + 1 => none
  | .node l r, k, v => bif Nat.beq (k % 2) 0
      then (match l.set (k / 2) v with | some l' => some (.node l' r) | none => none)
      else (match r.set (k / 2) v with | some r' => some (.node l r') | none => none)

def T.full {α : Type} (a : α) : Nat → T α
  | 0 => .leaf a
  | d + 1 => .node (T.full a d) (T.full a d)

/-! ### forcing -/
def forceN {β : Type} (n : Nat) (k : Nat → β) : β := match n with | 0 => k 0 | m + 1 => k (m + 1)
def forceI {β : Type} (n : Int) (k : Int → β) : β := match n with | .ofNat m => forceN m fun m => k (.ofNat m) | .negSucc m => forceN m fun m => k (.negSucc m)
def forceL {α β : Type} (f : α → (α → β) → β) : List α → (List α → β) → β
  | [], k => k []
  | x :: xs, k => f x fun x => forceL f xs fun xs => k (x :: xs)
def forceA {β : Type} (a : Option Addr) (k : Option Addr → β) : β := match a with
  | none => k none
  | some ⟨b, o, s⟩ => forceN b fun b => forceN o fun o => match s with | none => k (some ⟨b, o, none⟩) | some s => k (some ⟨b, o, some s⟩)
def forceV {β : Type} : Nat → Value → (Value → β) → β
  | 0, v, k => k v
  | d + 1, v, k => match v with
    | .bool b => match b with | true => k (.bool true) | false => k (.bool false)
    | .int i n => match i with
      | .i8 => forceI n fun n => k (.int .i8 n)
      | .i16 => forceI n fun n => k (.int .i16 n)
      | .i32 => forceI n fun n => k (.int .i32 n)
      | .i64 => forceI n fun n => k (.int .i64 n)
      | .u8 => forceI n fun n => k (.int .u8 n)
      | .u16 => forceI n fun n => k (.int .u16 n)
      | .u32 => forceI n fun n => k (.int .u32 n)
      | .u64 => forceI n fun n => k (.int .u64 n)
    | .pointer a => forceA a fun a => k (.pointer a)
    | .slice a n c => forceA a fun a => forceN n fun n => forceN c fun c => k (.slice a n c)
    | .map r => match r with | none => k (.map none) | some r => forceN r fun r => k (.map (some r))
    | .agg ⟨l⟩ => forceL (forceV d) l fun l => k (.agg ⟨l⟩)
    | .tuple ⟨l⟩ => forceL (forceV d) l fun l => k (.tuple ⟨l⟩)
    | .iface t v => forceN t fun t => forceV d v fun v => k (.iface t v)
    | .func fn ⟨a⟩ ⟨b⟩ => forceL (forceV d) a fun a => forceL (forceV d) b fun b => k (.func fn ⟨a⟩ ⟨b⟩)
    | .string ⟨⟨l⟩⟩ => forceL (fun (x : UInt8) k => match x with | ⟨⟨⟨n, _⟩⟩⟩ => k x) l fun l => k (.string ⟨⟨l⟩⟩)
    | v => k v

/-! ### blocks -/
inductive Blk where
  | dead
  | cells (c : List Value) (elem : TypeId) (es : Nat) (rw : Bool)
  | map (es : List MapEntry) (clock : Nat)

structure AH where
  t : T Blk
  next : Nat

def AH.get (H : AH) (b : Nat) : Blk := match H.t.get b with | some k => k | none => .dead

structure AAct where
  t : T Value
  n : Nat
  defers : List FuncId

def AAct.look (a : AAct) (x : Tmp) : Option Value := bif Nat.blt x a.n then a.t.get x else none

def plainN : Nat → Value → Bool
  | 0, _ => false
  | n + 1, v => match v with
    | .bool _ | .int _ _ | .float _ _ | .complex _ _ _ | .string _ | .nilFunc | .nilIface => true
    | .pointer a => a.isNone
    | .slice a n c => a.isNone && Nat.beq n 0 && Nat.beq c 0
    | .map a => a.isNone
    | .chan a => a.isNone
    | .func _ a b => a.toList.all (plainN n) && b.toList.all (plainN n)
    | .iface _ v => plainN n v
    | .agg cs => cs.toList.all (plainN n)
    | .tuple cs => cs.toList.all (plainN n)
def plainV : Value → Bool := plainN 8

def AAct.eval (G : List Nat) (a : AAct) : Operand → Option Value
  | .tmp t => a.look t
  | .const v => bif plainV v then some v else none
  | .global g => bif G.any (Nat.beq g) then some (.pointer (some ⟨g, 0, none⟩)) else none
  | .func f => some (.func (.func f) #[] #[])

def AAct.put (a : AAct) (dst : Option Tmp) (v : Value) : Option AAct :=
  match dst with
  | none => some a
  | some d => bif Nat.blt d a.n then (match a.t.set d v with | some t => some { a with t := t } | none => none) else none

/-! ### pure runs of the model's own operations -/
def pureP {α : Type} (P : Program) : Sem α → Option α
  | .pure a => some a
  | .program k => pureP P (k P)
  | _ => none

/-! ### types -/
def und (P : Program) (t : TypeId) : Option TypeDesc := P.underlying t
def szOf (P : Program) (t : TypeId) : Option Nat := match P.info? t with | some i => some i.size | none => none
def isAggT : TypeDesc → Bool | .struct _ | .array _ _ => true | _ => false

/-! ### memory -/
def takeCells (l : List Value) (o n : Nat) : Option (List Value) :=
  let r := (l.drop o).take n
  bif Nat.beq r.length n then some r else none
def AH.read (H : AH) (b o n : Nat) : Option (List Value) :=
  match H.get b with
  | .cells c _ _ _ => takeCells c o n
  | _ => none
def putCells : List Value → Nat → List Value → Option (List Value)
  | c, 0, [] => some c
  | _ :: c, 0, v :: vs => (putCells c 0 vs).map (v :: ·)
  | x :: c, o + 1, vs => (putCells c o vs).map (x :: ·)
  | [], _, _ => none
def atomV : Value → Bool | .agg _ | .tuple _ => false | _ => true
def AH.setB (H : AH) (b : Nat) (k : Blk) : Option AH := match H.t.set b k with | some t => some { H with t := t } | none => none
def AH.write (H : AH) (b o : Nat) (vs : List Value) : Option AH :=
  match H.get b with
  | .cells c e es true => bif vs.all atomV then
      match putCells c o vs with | some c' => H.setB b (.cells c' e es true) | none => none else none
  | _ => none
def AH.push (H : AH) (k : Blk) : Option AH := match H.t.set H.next k with | some t => some ⟨t, H.next + 1⟩ | none => none

def loadA (P : Program) (H : AH) (t : TypeId) : Value → Option Value
  | .pointer (some ⟨b, o, none⟩) =>
    match und P t, szOf P t with
    | some d, some n => bif isAggT d then (H.read b o n).map fun l => .agg ⟨l⟩ else
        match H.read b o 1 with | some [v] => some v | _ => none
    | _, _ => none
  | _ => none

def zeroOf (P : Program) (t : TypeId) : Option Value := match P.info? t with
  | some i => match i.zero with
    | some z => bif plainV z then some z else none
    | none => none
  | none => none

def ptrTo (b : Nat) : Value := .pointer (some ⟨b, 0, none⟩)

/-- the result of a slice expression over a slice. -/
def resl (a : Option Addr) (c size : Nat) (l h : Nat) (m : Option Nat) : Option Value :=
  let cap := c / 2
  let exact := Nat.beq (c % 2) 1
  match m with
  | some m => bif Nat.ble m cap && Nat.ble h m && Nat.ble l h then
      (bif Nat.beq m l && !(Nat.beq l 0) && !exact then none else
      some (.slice (bif Nat.beq m l then a else a.map (·.add (l * size))) (h - l) (2 * (m - l) + 1))) else none
  | none => bif Nat.ble h cap && Nat.ble l h then
      bif exact then some (.slice (bif Nat.beq cap l then a else a.map (·.add (l * size))) (h - l) (2 * (cap - l) + 1))
      else bif Nat.beq l 0 then some (.slice a h c)
      else bif Nat.blt l cap then some (.slice (a.map (·.add (l * size))) (h - l) (2 * (cap - l)))
      else none
    else none

def asNat : Value → Option Nat | .int _ (.ofNat n) => some n | _ => none
def optNat (ρ : Operand → Option Value) : Option Operand → Option (Option Nat)
  | none => some none
  | some x => match ρ x with | some v => (asNat v).map some | none => none

def lenA (P : Program) (H : AH) (t : TypeId) (x : Value) : Option Nat :=
  match und P t, x with
  | some .string, .string s => some s.size
  | some (.slice _), .slice _ n _ => some n
  | some (.map _ _), .map none => some 0
  | some (.map _ _), .map (some r) => match H.get r with | .map es _ => some es.length | _ => none
  | some (.array n _), _ => some n
  | _, _ => none

def pairs (ρ : Operand → Option Value) : List (Nat × Operand) → Option (List (Nat × Value))
  | [] => some []
  | (i, x) :: l => match ρ x, pairs ρ l with | some v, some r => some ((i, v) :: r) | _, _ => none
def vals (ρ : Operand → Option Value) : List Operand → Option (List Value)
  | [] => some []
  | x :: l => match ρ x, vals ρ l with | some v, some r => some (v :: r) | _, _ => none

def places (P : Program) : List Field → Option (List (Nat × Nat))
  | [] => some []
  | f :: l => match szOf P f.type, places P l with | some n, some r => some ((f.offset, n) :: r) | _, _ => none

def strEq (a b : ByteArray) : Bool := decide (a.data.toList.map (·.toNat) = b.data.toList.map (·.toNat))

def eqA (d : TypeDesc) (x y : Value) : Option Bool :=
  match d, x, y with
  | .bool, .bool a, .bool b => some (a == b)
  | .pointer _, .pointer none, .pointer b => some b.isNone
  | .pointer _, .pointer (some _), .pointer none => some false
  | .interface _, .nilIface, .iface _ _ => some false
  | .interface _, .iface _ _, .nilIface => some false
  | .slice _, .slice none _ _, .slice b _ _ => some b.isNone
  | .slice _, .slice (some _) _ _, .slice none _ _ => some false
  | .map _ _, .map none, .map b => some b.isNone
  | .map _ _, .map (some _), .map none => some false
  | .func _ _ _, .func _ _ _, .nilFunc => some false
  | .func _ _ _, .nilFunc, .func _ _ _ => some false
  | .func _ _ _, .nilFunc, .nilFunc => some true
  | _, _, _ => none

def isConstOp : Operand → Bool | .const _ => true | _ => false

/-- An operation that turns nothing that is there: its value, and the block that it makes. -/
def evalFloat (P : Program) (o : Oper) (ρ : Operand → Option Value) (H : AH) (id : Nat) : Option (Value × Option Blk) :=
  match o.op with
  | .move x | .assign x => match ρ x with | some v => some (v, none) | none => none
  | .pick c a b => match ρ c with
    | some (.bool true) => match ρ a with | some v => some (v, none) | none => none
    | some (.bool false) => match ρ b with | some v => some (v, none) | none => none
    | _ => none
  | .alloc e => match zeroOf P e, szOf P e with
    | some z, some n => some (ptrTo id, some (.cells z.cells.toList e n true))
    | _, _ => none
  | .box e x => match ρ x, szOf P e with
    | some v, some n => some (ptrTo id, some (.cells v.cells.toList e n true))
    | _, _ => none
  | .build t parts => match zeroOf P t, und P t, pairs ρ parts.toList with
    | some z, some (.struct fields), some ps =>
      match places P fields.toList with
      | some pl => match Instr.fill (fun i => pl[i]?) z.cells ps with
        | some cells => some (.agg cells, none)
        | none => none
      | none => none
    | some z, some (.array _ elem), some ps =>
      match szOf P elem with
      | some size => match Instr.fill (fun i => some (i * size, size)) z.cells ps with
        | some cells => some (.agg cells, none)
        | none => none
      | none => none
    | _, _, _ => none
  | .buildSlice t len parts => match und P t, pairs ρ parts.toList with
    | some (.slice elem), some ps =>
      match szOf P elem, zeroOf P elem with
      | some size, some z =>
        bif Nat.beq len 0 then (match ps with
          | [] => some (.slice (some ⟨id, 0, none⟩) 0 1, some (.cells [] elem size true))
          | _ => none) else
        bif Nat.ble (len * size) 4096 && Nat.blt 0 (len * size) && !(Nat.beq z.cells.size 0) then
          match Instr.fill (fun i => some (i * size, size)) ((Array.range (len * size)).map (z.cells[· % z.cells.size]!)) ps with
          | some cells => some (.slice (some ⟨id, 0, none⟩) len (2 * len + 1), some (.cells cells.toList elem size true))
          | none => none
        else none
      | _, _ => none
    | _, _ => none
  | .load t a => match ρ a with
    | some v => match loadA P H t v with | some r => some (r, none) | none => none
    | none => none
  | .nilCheck x => match ρ x with
    | some (.pointer (some a)) => some (.pointer (some a), none)
    | some (.iface t v) => some (.iface t v, none)
    | some (.func (.func f) a b) => some (.func (.func f) a b, none)
    | _ => none
  | .binOp op t x y _ => match ρ x, ρ y with
    | some (.string a), some (.string b) => match op with
      | .eql => some (.bool (strEq a b), none)
      | .neq => some (.bool !(strEq a b), none)
      | .add => bif Nat.ble (a.size + b.size) 1000000 then some (.string (a ++ b), none) else none
      | _ => none
    | some .nilIface, some .nilIface => bif isConstOp x || isConstOp y then
        match op, und P t with
        | .eql, some (.interface _) => some (.bool true, none)
        | .neq, some (.interface _) => some (.bool false, none)
        | _, _ => none
      else none
    | some (.int k n), some (.int k' m) => match pureP P (binOp op t (.int k n) (.int k' m)) with
      | some v => bif plainV v then some (v, none) else none
      | none => none
    | some a, some b => match op, und P t with
      | .eql, some d => match eqA d a b with | some r => some (.bool r, none) | none => none
      | .neq, some d => match eqA d a b with | some r => some (.bool !r, none) | none => none
      | _, _ => none
    | _, _ => none
  | .unOp op _ x => match ρ x with
    | some a => bif plainV a then (match pureP P (Op.unary op a) with | some v => bif plainV v then some (v, none) else none | none => none) else none
    | none => none
  | .convert src dst x => match und P src, und P dst, ρ x with
    | some (.int _), some (.int k), some (.int _ n) => some (.int k (k.wrap n), none)
    | some (.string), some (.string), some (.string s) => some (.string s, none)
    | some .string, some (.slice e), some (.string s) =>
      match und P e, szOf P e with
      | some (.int .u8), some 1 =>
        some (.slice (some ⟨id, 0, none⟩) s.size (2 * s.size), some (.cells (s.data.toList.map fun b => .int .u8 b.toNat) e 1 true))
      | _, _ => none
    | _, _, _ => none
  | .makeInterface t x => match und P t, ρ x with
    | some (.interface _), _ => none
    | some _, some v => some (.iface t v, none)
    | _, _ => none
  | .makeFunc fn first cap => match vals ρ first.toList, vals ρ cap.toList with
    | some a, some b => some (.func fn ⟨a⟩ ⟨b⟩, none)
    | _, _ => none
  | .makeMap t none => some (.map (some id), some (.map [] 0))
  | .makeSlice t l c => match und P t, ρ l, ρ c with
    | some (.slice elem), some (.int .i64 (.ofNat len)), some (.int .i64 (.ofNat cap)) =>
      match P.info? elem, zeroOf P elem with
      | some i, some z => bif Nat.ble (cap * i.size) 4096 && Nat.ble len cap && Nat.ble (cap * i.bytes) 65536 && Nat.ble cap 65536 && !(Nat.beq z.cells.size 0) then
            some (.slice (some ⟨id, 0, none⟩) len (2 * cap + 1), some (.cells ((Array.range (cap * i.size)).map (z.cells[· % z.cells.size]!)).toList elem i.size true))
          else none
      | _, _ => none
    | _, _, _ => none
  | .slice t x lo hi mx => match und P t, ρ x, optNat ρ lo, optNat ρ hi, optNat ρ mx with
    | some .string, some (.string s), some lo, some hi, some none =>
      let l := lo.getD 0
      let h := hi.getD s.size
      bif Nat.ble h s.size && Nat.ble l h then some (.string (s.extract l h), none) else none
    | some (.slice elem), some (.slice a len c), some lo, some hi, some mx =>
      match szOf P elem with
      | some size =>
        match resl a c size (lo.getD 0) (hi.getD len) mx with
        | some v => match a with
          | some ad => match H.get ad.block with
            | .cells _ _ es _ => bif Nat.beq es size && !(mx.isSome && hi.isNone) then some (v, none) else none
            | _ => none
          | none => none
        | none => none
      | none => none
    | _, _, _, _, _ => none
  | .fieldAddr t x f => match und P t, ρ x with
    | some (.struct fields), some (.pointer (some ⟨b, o, none⟩)) =>
      match fields[f]? with
      | some fd => match szOf P fd.type with
        | some (_ + 1) => some (.pointer (some ⟨b, o + fd.offset, none⟩), none)
        | _ => none
      | none => none
    | _, _ => none
  | .field t x f => match und P t, ρ x with
    | some (.struct fields), some (.agg cs) =>
      match fields[f]? with
      | some fd => match und P fd.type, szOf P fd.type with
        | some d, some n => bif isAggT d then some (.agg (cs.extract fd.offset (fd.offset + n)), none)
            else match cs[fd.offset]? with | some v => some (v, none) | none => none
        | _, _ => none
      | none => none
    | _, _ => none
  | .indexAddr t x i => match und P t, ρ x, ρ i with
    | some (.slice elem), some (.slice (some ⟨b, o, none⟩) len _), some (.int _ (.ofNat k)) =>
      match szOf P elem with
      | some n => bif Nat.blt k len then some (.pointer (some ⟨b, o + k * n, none⟩), none) else none
      | none => none
    | some (.array len elem), some (.pointer (some ⟨b, o, none⟩)), some (.int _ (.ofNat k)) =>
      match szOf P elem with
      | some n => bif Nat.blt k len then some (.pointer (some ⟨b, o + k * n, none⟩), none) else none
      | none => none
    | _, _, _ => none
  | .index t x i => match und P t, ρ x, ρ i with
    | some .string, some (.string s), some (.int _ (.ofNat k)) =>
      match s.data.toList[k]? with | some b => some (.int .u8 b.toNat, none) | none => none
    | some (.array len elem), some (.agg cs), some (.int _ (.ofNat k)) =>
      match und P elem, szOf P elem with
      | some d, some n => bif Nat.blt k len then
          (bif isAggT d then some (.agg (cs.extract (k * n) (k * n + n)), none)
           else match cs[k * n]? with | some v => some (v, none) | none => none)
        else none
      | _, _ => none
    | _, _, _ => none
  | .extract x i => match ρ x with
    | some (.tuple vs) => match vs[i]? with | some v => some (v, none) | none => none
    | _ => none
  | .call { callee := .builtin .len, args, argTypes } => match args.toList, argTypes[0]? with
    | [x], some t => match ρ x with
      | some v => match lenA P H t v with | some n => some (.int .i64 n, none) | none => none
      | none => none
    | _, _ => none
  | .call { callee := .builtin .max, args, .. } => match vals ρ args.toList with
    | some [.int k a, .int k' b] => some (.int k (if b > a then b else a), none)
    | _ => none
  | .call { callee := .builtin .min, args, .. } => match vals ρ args.toList with
    | some [.int k a, .int k' b] => some (.int k (if b < a then b else a), none)
    | _ => none
  | _ => none

def isEff (o : Oper) : Bool := match o.op with
  | .store .. | .mapUpdate .. | .insert .. | .mapEntry .. | .entryStore .. | .next .. | .go _ | .defer _ | .panic _ | .send .. | .recv .. | .select .. | .ready _ => true
  | .call { callee := .builtin b, .. } => match b with | .len | .cap | .max | .min => false | _ => true
  | .call _ => true
  | .convert src dst x => Nat.beq src dst && (match x with | .tmp _ => true | _ => false)
  | _ => false

def growBound (need bytes : Nat) : Bool := Nat.ble ((2 * need + 1000) * bytes) 100000000

def readSrc (H : AH) (size n : Nat) : Value → Option (List Value)
  | .slice (some ⟨b, o, none⟩) _ _ => H.read b o (n * size)
  | .slice none _ _ => some []
  | .string s => some ((s.data.toList.take n).map fun b => .int .u8 b.toNat)
  | _ => none
def lenSrc : Value → Option Nat | .slice _ n _ => some n | .string s => some s.size | _ => none

def isIntT : TypeDesc → Bool | .int _ => true | _ => false

/-- the new block of an append that grows. -/
def grown (H : AH) (elem : TypeId) (size need : Nat) (l : List Value) : Option (Value × AH) :=
  match H.push (.cells l elem size true) with
  | some H' => some (.slice (some ⟨H.next, 0, none⟩) need (2 * need), H')
  | none => none

def appendA (P : Program) (H : AH) (argTypes : Array TypeId) (s x : Value) : Option (Value × AH) :=
  match argTypes[0]?, argTypes[1]? with
  | some sT, some xT => match und P sT, und P xT, s with
    | some (.slice elem), some xd, .slice base sLen c =>
      bif isIntT xd then none else
      match P.info? elem, zeroOf P elem, lenSrc x with
      | some info, some z, some n =>
        match readSrc H info.size n x with
        | some new =>
          bif Nat.ble (sLen + n) (c / 2) then
            match base with
            | some ⟨b, o, none⟩ => match H.write b (o + sLen * info.size) new with
              | some H' => some (.slice (some ⟨b, o, none⟩) (sLen + n) c, H')
              | none => none
            | _ => none
          else bif !(growBound (sLen + n) info.bytes) || Nat.beq info.bytes 0 || !(Nat.beq z.cells.size info.size) || !(Nat.beq new.length (n * info.size)) then none else
          match base with
          | none => bif Nat.beq sLen 0 then grown H elem info.size n new else none
          | some ⟨b, o, none⟩ =>
            match H.read b o (sLen * info.size) with
            | some old =>
              bif Nat.beq (c % 2) 1 then grown H elem info.size (sLen + n) (old ++ new)
              else bif Nat.beq o 0 then
                match H.get b with
                | .cells _ elem' es true => bif Nat.beq es info.size && Nat.beq elem' elem && new.all atomV then
                    match H.setB b .dead with
                    | some H1 => grown H1 elem info.size (sLen + n) (old ++ new)
                    | none => none
                  else none
                | _ => none
              else none
            | none => none
          | _ => none
        | none => none
      | _, _, _ => none
    | _, _, _ => none
  | _, _ => none

def methodF (P : Program) (t : TypeId) (name : String) : Option FuncId :=
  match P.info? t, und P t with
  | some i, some d => match i.methods.toList.find? (·.name == name) with
    | some m => bif m.path.isEmpty then
        match m.func, d with
        | some (f, true), .pointer _ => some f
        | some (_, false), .pointer _ => none
        | some (f, false), _ => some f
        | _, _ => none
      else none
    | none => none
  | _, _ => none

def callable (P : Program) (f : FuncId) : Bool := match P.funcs[f]? with
  | some fn => fn.body.isSome && !(fn.name == "runtime.NumGoroutine")
  | none => false

abbrev CallF := FuncId → List Value → AH → Option (Value × AH)

/-- An operation that turns memory, or calls. -/
def evalEff (P : Program) (call : CallF) (o : Oper) (ρ : Operand → Option Value) (H : AH) : Option (Value × AH) :=
  match o.op with
  | .store t a x => match ρ a, ρ x, szOf P t with
    | some (.pointer (some ⟨b, off, none⟩)), some v, some n =>
      bif Nat.beq v.cells.size n then match H.write b off v.cells.toList with | some H' => some (undef, H') | none => none else none
    | _, _, _ => none
  | .convert src _ x => match und P src, ρ x with
    | some (.slice e), some (.slice (some a) n c) => match und P e, H.get a.block with
      | some (.int .u8), .cells _ _ _ true => some (.slice (some a) n c, H)
      | _, _ => none
    | some .string, some (.string s) => some (.string s, H)
    | some (.int k), some (.int _ n) => some (.int k (k.wrap n), H)
    | _, _ => none
  | .call { callee := .builtin .append, args, argTypes } => match vals ρ args.toList with
    | some [s, x] => appendA P H argTypes s x
    | _ => none
  | .call { callee := .builtin .copy, args, argTypes } => match vals ρ args.toList, argTypes[0]? with
    | some [.slice base dLen c, src], some t => match und P t with
      | some (.slice elem) => match szOf P elem, lenSrc src with
        | some size, some sn =>
          let n := Nat.min sn dLen
          match readSrc H size n src, base with
          | some cells, some ⟨b, o, none⟩ => match H.write b o cells with | some H' => some (.int .i64 n, H') | none => none
          | some _, none => some (.int .i64 n, H)
          | _, _ => none
        | _, _ => none
      | _ => none
    | _, _ => none
  | .call { callee := .value f, args, .. } => match ρ f, vals ρ args.toList with
    | some (.func (.func g) first cap), some as => bif callable P g then call g (first.toList ++ as ++ cap.toList) H else none
    | _, _ => none
  | .call { callee := .invoke r name, args, .. } => match ρ r, vals ρ args.toList with
    | some (.iface t v), some as => match methodF P t name with
      | some g => bif callable P g then call g (v :: as) H else none
      | none => none
    | _, _ => none
  | _ => none

def wantedA (ops : Array Oper) (a : AAct) (o : Oper) : Option Bool :=
  match o.guard with
  | none => some true
  | some (j, want) => match (ops[j]?).bind (·.dst) with
    | some d => match a.look d with
      | some (.bool b) => some (b == want)
      | some _ => some false
      | none => none
    | none => some false

def D : Nat := 6

/-- A region that does not draw: one operation behind the other. -/
def evalSeq (P : Program) (G : List Nat) (call : CallF) (ops : Array Oper) : List Oper → AAct → AH → Option (AAct × AH)
  | [], a, H => some (a, H)
  | o :: rest, a, H => match wantedA ops a o with
    | none => none
    | some false => match a.put o.dst undef with | some a' => evalSeq P G call ops rest a' H | none => none
    | some true =>
      match o.op with
      | .defer { callee := .value f, args, .. } =>
        match AAct.eval G a f with
        | some (.func (.func g) first cap) => bif args.isEmpty && callable P g then
            (match ({ a with defers := g :: a.defers } : AAct).put o.dst undef with
            | some a' => evalSeq P G call ops rest a' H | none => none) else none
        | _ => none
      | _ =>
      bif isEff o then
        match evalEff P call o (AAct.eval G a) H with
        | some (v, H') => forceV D v fun v => match a.put o.dst v with | some a' => evalSeq P G call ops rest a' H' | none => none
        | none => none
      else match evalFloat P o (AAct.eval G a) H H.next with
        | some (v, none) => forceV D v fun v => match a.put o.dst v with | some a' => evalSeq P G call ops rest a' H | none => none
        | some (v, some k) => match H.push k with
          | some H' => forceV D v fun v => match a.put o.dst v with | some a' => evalSeq P G call ops rest a' H' | none => none
          | none => none
        | none => none


/-! ### a region that draws -/
structure Rec where
  a : AAct
  v : Value
  kind : Nat
  blk : Option Blk
  id : Nat
  id2 : Nat
  m : Nat

def depB (o : Oper) (j : Nat) : Bool := o.after.toList.any fun e => Region.binds .any e && Nat.beq e.on j

abbrev Recs := List (Nat × Oper × Rec)

def absorbed (rs : Recs) (j m : Nat) : Bool := rs.any fun x => Nat.beq x.2.2.kind 2 && Nat.blt x.2.2.m m && depB x.2.1 j

def isDead : Blk → Bool | .dead => true | _ => false
def isRWB : Blk → Bool | .cells _ _ _ true => true | .map _ _ => true | _ => false

/-- The core at m, with the blocks of the selected floaters that it does not bear yet. -/
def view (all : Recs) (sel : Nat → Bool) (m : Nat) : Recs → AH → Option AH
  | [], H => some H
  | (j, _, r) :: rest, H =>
    match r.blk with
    | some k => bif sel j && !absorbed all j m then
        (bif isDead (H.get r.id) then (match H.setB r.id k with | some H' => view all sel m rest H' | none => none) else none)
        else view all sel m rest H
    | none => view all sel m rest H

def forceBlk {β : Type} (k : Option Blk) (f : Option Blk → β) : β := match k with
  | none => f none
  | some .dead => f (some .dead)
  | some (.cells c e es rw) => forceL (forceV D) c fun c => forceN e fun e => forceN es fun es => f (some (.cells c e es rw))
  | some (.map es c) => f (some (.map es c))

def namesOf (ops : Array Oper) (o : Oper) : List Tmp :=
  o.dst.toList ++ o.looksAt ops

/-- what an operation sees. -/
def restr (ops : Array Oper) (o : Oper) (ρ : Operand → Option Value) : Operand → Option Value
  | .tmp t => bif (namesOf ops o).any (Nat.beq t) then ρ (.tmp t) else none
  | x => ρ x

def pass (P : Program) (G : List Nat) (call : CallF) (ops : Array Oper) : List Oper → Nat → AAct → Nat → Nat → AH → List AH → Recs → Option (AAct × Nat × AH × List AH × Recs)
  | [], _, a, id, _, C, cores, rs => some (a, id, C, cores, rs)
  | o :: rest, i, a, id, m, C, cores, rs => match wantedA ops a o with
    | none => none
    | some false => match a.put o.dst undef with
      | some a' => pass P G call ops rest (i + 1) a' id m C cores (rs ++ [(i, o, ⟨a, undef, 0, none, id, id, m⟩)])
      | none => none
    | some true => match view rs (depB o) m rs C with
      | none => none
      | some Hv =>
        bif isEff o then
          match evalEff P call o (restr ops o (AAct.eval G a)) { Hv with next := id } with
          | some (v, H') => forceV D v fun v => forceN H'.next fun id' => match a.put o.dst v with
            | some a' => pass P G call ops rest (i + 1) a' id' (m + 1) H' (cores ++ [H']) (rs ++ [(i, o, ⟨a, v, 2, none, id, id', m⟩)])
            | none => none
          | none => none
        else match evalFloat P o (restr ops o (AAct.eval G a)) Hv id with
          | some (v, none) => forceV D v fun v => match a.put o.dst v with
            | some a' => pass P G call ops rest (i + 1) a' id m C cores (rs ++ [(i, o, ⟨a, v, 1, none, id, id, m⟩)])
            | none => none
          | some (v, some k) => forceV D v fun v => match a.put o.dst v with
            | some a' => bif isRWB k then forceBlk (some k) fun k => pass P G call ops rest (i + 1) a' (id + 1) m C cores (rs ++ [(i, o, ⟨a, v, 1, k, id, id + 1, m⟩)]) else none
            | none => none
          | none => none

def readsMem (o : Oper) : Bool := match o.op with
  | .load .. | .slice .. => true
  | .call { callee := .builtin .len, .. } => true
  | _ => false

def eqbA : Option Addr → Option Addr → Bool
  | none, none => true
  | some ⟨b, o, none⟩, some ⟨b', o', none⟩ => Nat.beq b b' && Nat.beq o o'
  | _, _ => false
def kindNo : IntKind → Nat | .i8 => 0 | .i16 => 1 | .i32 => 2 | .i64 => 3 | .u8 => 4 | .u16 => 5 | .u32 => 6 | .u64 => 7
def eqbI : Int → Int → Bool
  | .ofNat a, .ofNat b => Nat.beq a b
  | .negSucc a, .negSucc b => Nat.beq a b
  | _, _ => false
def eqbFn : Fn → Fn → Bool
  | .func a, .func b => Nat.beq a b
  | _, _ => false
def eqbL {α : Type} (f : α → α → Bool) : List α → List α → Bool
  | [], [] => true
  | x :: xs, y :: ys => f x y && eqbL f xs ys
  | _, _ => false
def eqbV : Nat → Value → Value → Bool
  | 0, _, _ => false
  | n + 1, v, w => match v, w with
    | .bool a, .bool b => match a, b with | true, true => true | false, false => true | _, _ => false
    | .int k a, .int k' b => Nat.beq (kindNo k) (kindNo k') && eqbI a b
    | .string a, .string b => strEq a b
    | .pointer a, .pointer b => eqbA a b
    | .slice a l c, .slice a' l' c' => eqbA a a' && Nat.beq l l' && Nat.beq c c'
    | .map none, .map none => true
    | .map (some a), .map (some b) => Nat.beq a b
    | .nilFunc, .nilFunc => true
    | .nilIface, .nilIface => true
    | .iface t v, .iface t' w => Nat.beq t t' && eqbV n v w
    | .agg a, .agg b => eqbL (eqbV n) a.toList b.toList
    | .tuple a, .tuple b => eqbL (eqbV n) a.toList b.toList
    | .func f a b, .func f' a' b' => eqbFn f f' && eqbL (eqbV n) a.toList a'.toList && eqbL (eqbV n) b.toList b'.toList
    | _, _ => false

/-- every two operations of which one writes what the other names are in order; every edge goes back. -/
def regStatic (ops : Array Oper) : Bool :=
  let l := ops.toList.zipIdx
  l.all fun x => (x.1.after.toList.all fun e => !Region.binds .any e || Nat.blt e.on x.2) &&
    (l.all fun y => Nat.beq x.2 y.2 || (match y.1.dst with
      | none => true
      | some d => !((namesOf ops x.1).any (Nat.beq d)) || depB x.1 y.2 || depB y.1 x.2))

def storeTo (G : List Nat) (o : Oper) (a : AAct) : Option Nat := match o.op, o.dst with
  | .store _ x _, none => match AAct.eval G a x with | some (.pointer (some ⟨b, _, none⟩)) => some b | _ => none
  | _, _ => none

/-- the last two effects are stores into two blocks, in no order, and what may be carried out between them turns nothing, and looks at nothing. -/
def swapOK (P : Program) (G : List Nat) (ops : Array Oper) (rs : Recs) (cores : List AH) (x y : Nat × Oper × Rec) : Bool :=
  (match storeTo G x.2.1 x.2.2.a, storeTo G y.2.1 y.2.2.a with
   | some b, some c => !(Nat.beq b c)
   | _, _ => false) &&
  Nat.beq (x.2.2.m + 1) y.2.2.m && Nat.beq (y.2.2.m + 2) cores.length &&
  (match cores[x.2.2.m]? with
   | some C => match view rs (depB y.2.1) x.2.2.m rs C with
     | some Hv => (evalEff P (fun _ _ _ => none) y.2.1 (restr ops y.2.1 (AAct.eval G y.2.2.a)) { Hv with next := y.2.2.id }).isSome
     | none => false
   | none => false) &&
  rs.all fun z => depB y.2.1 z.1 || depB z.2.1 x.1 || Nat.beq z.1 x.1 || Nat.beq z.1 y.1 ||
    ((Nat.beq z.2.2.kind 0 || (Nat.beq z.2.2.kind 1 && !readsMem z.2.1)) && z.2.2.blk.isNone && !depB z.2.1 y.1 &&
      (match z.2.1.dst with | none => true | some d => !((namesOf ops y.2.1).any (Nat.beq d))))

/-- a floater that reads: at every core at which it may be carried out it gives the same. -/
def recheck (P : Program) (G : List Nat) (ops : Array Oper) (rs : Recs) (cores : List AH) : Bool :=
  rs.all fun x =>
    let i := x.1; let o := x.2.1; let r := x.2.2
    (bif Nat.beq r.kind 1 && readsMem o then
      cores.zipIdx.all fun c =>
        let m := c.2
        -- can m effects have been carried out?
        (rs.any fun y => Nat.beq y.2.2.kind 2 && ((depB o y.1 && Nat.ble m y.2.2.m) || (depB y.2.1 i && Nat.blt y.2.2.m m))) ||
        (match view rs (depB o) m rs c.1 with
         | some Hv => match evalFloat P o (restr ops o (AAct.eval G r.a)) Hv r.id with
           | some (v, none) => eqbV D v r.v
           | _ => false
         | none => false)
    else true) &&
    (bif Nat.beq r.kind 2 then rs.all fun y => !(Nat.beq y.2.2.kind 2 && Nat.blt y.1 i) || depB o y.1 || swapOK P G ops rs cores y x else true) &&
    (match r.blk with
     | none => true
     | some _ => cores.zipIdx.all fun c => absorbed rs i c.2 || isDead (c.1.get r.id))

def evalDraw (P : Program) (G : List Nat) (call : CallF) (ops : Array Oper) (a : AAct) (H : AH) : Option (AAct × AH) :=
  bif regStatic ops then
    match pass P G call ops ops.toList 0 a H.next 0 H [H] [] with
    | some (a', id, C, cores, rs) =>
      bif recheck P G ops rs cores then
        match view rs (fun _ => true) (cores.length - 1) rs C with
        | some Hf => some (a', { Hf with next := id })
        | none => none
      else none
    | none => none
  else none

inductive Ex where | normal | exit (id : Nat) | ret

def initAct (fn : Func) (args : List Value) : Option AAct :=
  let rec go : List Value → Nat → T Value → Option (T Value)
    | [], _, t => some t
    | v :: l, i, t => match t.set i v with | some t' => go l (i + 1) t' | none => none
  bif Nat.ble args.length fn.ntmps then
    match go args 0 (T.full undef 8) with
    | some t => some ⟨t, fn.ntmps, []⟩
    | none => none
  else none

def resA (P : Program) (a : AAct) (H : AH) : List ResultVar → Option (List Value)
  | [] => some []
  | .tmp t :: l => match a.look t, resA P a H l with | some v, some r => some (v :: r) | _, _ => none
  | .cell x t :: l => match a.look x with
    | some v => match loadA P H t v, resA P a H l with | some v, some r => some (v :: r) | _, _ => none
    | none => none

structure Orc where
  fn : FuncId → List Value → Option Value
  quiet : FuncId → Bool

def body (P : Program) (O : Orc) (ev : Code → AAct → AH → Option (Ex × AAct × AH)) : CallF := fun f args H =>
  match O.fn f args with
  | some v => some (v, H)
  | none =>
  match P.funcs[f]? with
  | some fn => match fn.body, initAct fn args with
    | some c, some a => match ev c a H with
      | some (e, a', H') =>
        match e with
        | .exit _ => none
        | _ =>
        bif a'.defers.all O.quiet then
          match resA P a' H' fn.results.toList with
          | some [v] => some (v, H')
          | some vs => some (.tuple ⟨vs⟩, H')
          | none => none
        else none
      | none => none
    | _, _ => none
  | none => none

def ev (P : Program) (G : List Nat) (O : Orc) : Nat → Code → AAct → AH → Option (Ex × AAct × AH)
  | 0, _, _, _ => none
  | n + 1, c, a, H => match c with
    | .skip => some (.normal, a, H)
    | .seq x y => match ev P G O n x a H with
      | some (.normal, a', H') => ev P G O n y a' H'
      | r => r
    | .cond c x y => match AAct.eval G a c with
      | some (.bool true) => ev P G O n x a H
      | some (.bool false) => ev P G O n y a H
      | _ => none
    | .block id b => match ev P G O n b a H with
      | some (.exit j, a', H') => bif Nat.beq j id then some (.normal, a', H') else some (.exit j, a', H')
      | r => r
    | .loop b => match ev P G O n b a H with
      | some (.normal, a', H') => ev P G O n (.loop b) a' H'
      | r => r
    | .exit id => some (.exit id, a, H)
    | .label _ => some (.normal, a, H)
    | .scope b => ev P G O n b a H
    | .ret => some (.ret, a, H)
    | .region _ ops false => match evalSeq P G (body P O (ev P G O n)) ops ops.toList a H with
      | some (a', H') => some (.normal, a', H')
      | none => none
    | .region _ ops true => match evalDraw P G (body P O (ev P G O n)) ops a H with
      | some (a', H') => some (.normal, a', H')
      | none => none
    | _ => none
end Go.Eng
