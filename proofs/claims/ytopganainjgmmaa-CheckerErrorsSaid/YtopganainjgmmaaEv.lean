/- An evaluator of the model's code over an abstract memory, made for the kernel. -/
import Derived.Calls
import Derived.Orders
set_option linter.unusedVariables false
set_option linter.constructorNameAsVariable false
namespace Go.Proofs.Ytopganainjgmmaa.Ev
open Go

inductive Cell where
  | bool (b : Bool)
  | int (k : IntKind) (n : Int)
  | sym (j : Nat)
  | str (l : List UInt8)
  | nilp
  | ptr (b o : Nat)
  | nils
  | slice (b o n sz : Nat)
  | map (b : Nat)
  | emp

inductive V where
  | no
  | undef
  | one (c : Cell)
  | agg (l : List Cell)
  | tup (l : List (Bool × List Cell))

inductive Blk where
  | no
  | cells (l : List Cell)
  | ro (l : List Cell)
  | map (l : List (List UInt8 × Cell))

/-- a node of sixteen -/
structure N (α : Type) where
  d0 : α
  d1 : α
  d2 : α
  d3 : α
  d4 : α
  d5 : α
  d6 : α
  d7 : α
  d8 : α
  d9 : α
  d10 : α
  d11 : α
  d12 : α
  d13 : α
  d14 : α
  d15 : α

namespace N
variable {α : Type}
def all (a : α) : N α := ⟨a, a, a, a, a, a, a, a, a, a, a, a, a, a, a, a⟩
noncomputable def open0 {β : Type} (t : N α) (K : α → (α → N α) → β) : β := N.rec (motive := fun _ => β) (fun x0 x1 x2 x3 x4 x5 x6 x7 x8 x9 x10 x11 x12 x13 x14 x15 => K x0 (fun y => N.mk y x1 x2 x3 x4 x5 x6 x7 x8 x9 x10 x11 x12 x13 x14 x15)) t
noncomputable def open1 {β : Type} (t : N α) (K : α → (α → N α) → β) : β := N.rec (motive := fun _ => β) (fun x0 x1 x2 x3 x4 x5 x6 x7 x8 x9 x10 x11 x12 x13 x14 x15 => K x1 (fun y => N.mk x0 y x2 x3 x4 x5 x6 x7 x8 x9 x10 x11 x12 x13 x14 x15)) t
noncomputable def open2 {β : Type} (t : N α) (K : α → (α → N α) → β) : β := N.rec (motive := fun _ => β) (fun x0 x1 x2 x3 x4 x5 x6 x7 x8 x9 x10 x11 x12 x13 x14 x15 => K x2 (fun y => N.mk x0 x1 y x3 x4 x5 x6 x7 x8 x9 x10 x11 x12 x13 x14 x15)) t
noncomputable def open3 {β : Type} (t : N α) (K : α → (α → N α) → β) : β := N.rec (motive := fun _ => β) (fun x0 x1 x2 x3 x4 x5 x6 x7 x8 x9 x10 x11 x12 x13 x14 x15 => K x3 (fun y => N.mk x0 x1 x2 y x4 x5 x6 x7 x8 x9 x10 x11 x12 x13 x14 x15)) t
noncomputable def open4 {β : Type} (t : N α) (K : α → (α → N α) → β) : β := N.rec (motive := fun _ => β) (fun x0 x1 x2 x3 x4 x5 x6 x7 x8 x9 x10 x11 x12 x13 x14 x15 => K x4 (fun y => N.mk x0 x1 x2 x3 y x5 x6 x7 x8 x9 x10 x11 x12 x13 x14 x15)) t
noncomputable def open5 {β : Type} (t : N α) (K : α → (α → N α) → β) : β := N.rec (motive := fun _ => β) (fun x0 x1 x2 x3 x4 x5 x6 x7 x8 x9 x10 x11 x12 x13 x14 x15 => K x5 (fun y => N.mk x0 x1 x2 x3 x4 y x6 x7 x8 x9 x10 x11 x12 x13 x14 x15)) t
noncomputable def open6 {β : Type} (t : N α) (K : α → (α → N α) → β) : β := N.rec (motive := fun _ => β) (fun x0 x1 x2 x3 x4 x5 x6 x7 x8 x9 x10 x11 x12 x13 x14 x15 => K x6 (fun y => N.mk x0 x1 x2 x3 x4 x5 y x7 x8 x9 x10 x11 x12 x13 x14 x15)) t
noncomputable def open7 {β : Type} (t : N α) (K : α → (α → N α) → β) : β := N.rec (motive := fun _ => β) (fun x0 x1 x2 x3 x4 x5 x6 x7 x8 x9 x10 x11 x12 x13 x14 x15 => K x7 (fun y => N.mk x0 x1 x2 x3 x4 x5 x6 y x8 x9 x10 x11 x12 x13 x14 x15)) t
noncomputable def open8 {β : Type} (t : N α) (K : α → (α → N α) → β) : β := N.rec (motive := fun _ => β) (fun x0 x1 x2 x3 x4 x5 x6 x7 x8 x9 x10 x11 x12 x13 x14 x15 => K x8 (fun y => N.mk x0 x1 x2 x3 x4 x5 x6 x7 y x9 x10 x11 x12 x13 x14 x15)) t
noncomputable def open9 {β : Type} (t : N α) (K : α → (α → N α) → β) : β := N.rec (motive := fun _ => β) (fun x0 x1 x2 x3 x4 x5 x6 x7 x8 x9 x10 x11 x12 x13 x14 x15 => K x9 (fun y => N.mk x0 x1 x2 x3 x4 x5 x6 x7 x8 y x10 x11 x12 x13 x14 x15)) t
noncomputable def open10 {β : Type} (t : N α) (K : α → (α → N α) → β) : β := N.rec (motive := fun _ => β) (fun x0 x1 x2 x3 x4 x5 x6 x7 x8 x9 x10 x11 x12 x13 x14 x15 => K x10 (fun y => N.mk x0 x1 x2 x3 x4 x5 x6 x7 x8 x9 y x11 x12 x13 x14 x15)) t
noncomputable def open11 {β : Type} (t : N α) (K : α → (α → N α) → β) : β := N.rec (motive := fun _ => β) (fun x0 x1 x2 x3 x4 x5 x6 x7 x8 x9 x10 x11 x12 x13 x14 x15 => K x11 (fun y => N.mk x0 x1 x2 x3 x4 x5 x6 x7 x8 x9 x10 y x12 x13 x14 x15)) t
noncomputable def open12 {β : Type} (t : N α) (K : α → (α → N α) → β) : β := N.rec (motive := fun _ => β) (fun x0 x1 x2 x3 x4 x5 x6 x7 x8 x9 x10 x11 x12 x13 x14 x15 => K x12 (fun y => N.mk x0 x1 x2 x3 x4 x5 x6 x7 x8 x9 x10 x11 y x13 x14 x15)) t
noncomputable def open13 {β : Type} (t : N α) (K : α → (α → N α) → β) : β := N.rec (motive := fun _ => β) (fun x0 x1 x2 x3 x4 x5 x6 x7 x8 x9 x10 x11 x12 x13 x14 x15 => K x13 (fun y => N.mk x0 x1 x2 x3 x4 x5 x6 x7 x8 x9 x10 x11 x12 y x14 x15)) t
noncomputable def open14 {β : Type} (t : N α) (K : α → (α → N α) → β) : β := N.rec (motive := fun _ => β) (fun x0 x1 x2 x3 x4 x5 x6 x7 x8 x9 x10 x11 x12 x13 x14 x15 => K x14 (fun y => N.mk x0 x1 x2 x3 x4 x5 x6 x7 x8 x9 x10 x11 x12 x13 y x15)) t
noncomputable def open15 {β : Type} (t : N α) (K : α → (α → N α) → β) : β := N.rec (motive := fun _ => β) (fun x0 x1 x2 x3 x4 x5 x6 x7 x8 x9 x10 x11 x12 x13 x14 x15 => K x15 (fun y => N.mk x0 x1 x2 x3 x4 x5 x6 x7 x8 x9 x10 x11 x12 x13 x14 y)) t
/-- how one of the sixteen is read and opened -/
structure Acc (α β : Type) where
  get : N α → α
  opn : N α → (α → (α → N α) → β) → β
noncomputable def acc {β : Type} : Nat → Acc α β
  | 0 => ⟨fun t => t.d0, open0⟩
  | 1 => ⟨fun t => t.d1, open1⟩
  | 2 => ⟨fun t => t.d2, open2⟩
  | 3 => ⟨fun t => t.d3, open3⟩
  | 4 => ⟨fun t => t.d4, open4⟩
  | 5 => ⟨fun t => t.d5, open5⟩
  | 6 => ⟨fun t => t.d6, open6⟩
  | 7 => ⟨fun t => t.d7, open7⟩
  | 8 => ⟨fun t => t.d8, open8⟩
  | 9 => ⟨fun t => t.d9, open9⟩
  | 10 => ⟨fun t => t.d10, open10⟩
  | 11 => ⟨fun t => t.d11, open11⟩
  | 12 => ⟨fun t => t.d12, open12⟩
  | 13 => ⟨fun t => t.d13, open13⟩
  | 14 => ⟨fun t => t.d14, open14⟩
  | _ => ⟨fun t => t.d15, open15⟩
end N

abbrev E := N (N V)
abbrev HT := N (N (N (N Blk)))
structure H where
  next : Nat
  tr : HT

inductive RV where
  | ok (v : V) (h : H)
  | bad (n : Nat)
inductive RE where
  | ok (e : E) (h : H)
  | bad (n : Nat)
inductive RS where
  | normal (e : E) (h : H)
  | exit (id : Nat) (e : E) (h : H)
  | ret (e : E) (h : H)
  | bad (n : Nat)

def e0 : E := N.all (N.all .no)
def h0 : H := ⟨0, N.all (N.all (N.all (N.all .no)))⟩

/-! ### one place of the frame, of the memory -/
structure EA where
  get : E → V
  set : V → E → E
noncomputable def ea (n : Nat) : EA := match Nat.blt n 256 with
  | false => ⟨fun _ => .no, fun _ e => e⟩
  | true => ⟨fun e => (N.acc (β := V) (Nat.mod n 16)).get ((N.acc (β := V) (Nat.div n 16)).get e),
   fun v e => (N.acc (Nat.div n 16)).opn e fun u put => (N.acc (Nat.mod n 16)).opn u fun _ put' => put (put' v)⟩
structure HA where
  get : HT → Blk
  set : Blk → HT → HT
noncomputable def ha (n : Nat) : HA := match Nat.blt n 65536 with
  | false => ⟨fun _ => .no, fun _ e => e⟩
  | true => ⟨fun e => (N.acc (β := V) (Nat.mod n 16)).get ((N.acc (β := V) (Nat.mod (Nat.div n 16) 16)).get ((N.acc (β := V) (Nat.mod (Nat.div n 256) 16)).get ((N.acc (β := V) (Nat.div n 4096)).get e))),
   fun v e => (N.acc (Nat.div n 4096)).opn e fun u p0 => (N.acc (Nat.mod (Nat.div n 256) 16)).opn u fun w p1 => (N.acc (Nat.mod (Nat.div n 16) 16)).opn w fun x p2 => (N.acc (Nat.mod n 16)).opn x fun _ p3 => p0 (p1 (p2 (p3 v)))⟩

/-! ### forcing -/
noncomputable def fN {β : Type} (n : Nat) (K : Nat → β) : β := Nat.rec (motive := fun _ => β) (K 0) (fun m _ => K (Nat.succ m)) n
noncomputable def fI {β : Type} (n : Int) (K : Int → β) : β := Int.rec (motive := fun _ => β) (fun m => fN m fun m => K (.ofNat m)) (fun m => fN m fun m => K (.negSucc m)) n
noncomputable def fB {β : Type} (b : Bool) (K : Bool → β) : β := Bool.rec (motive := fun _ => β) (K false) (K true) b
noncomputable def ite' {β : Type} (b : Bool) (x y : β) : β := Bool.rec (motive := fun _ => β) y x b
noncomputable def fL {α β : Type} (l : List α) : (List α → β) → β := List.rec (motive := fun _ => (List α → β) → β) (fun K => K []) (fun a _ ih K => ih fun l' => K (a :: l')) l
noncomputable def fW {β : Type} (k : IntKind) (n : Int) (K : Int → β) : β :=
  Int.rec (motive := fun _ => β) (fun m => fN m fun m => ite' (Nat.ble m 4611686018427387904) (IntKind.rec (motive := fun _ => β) (fI (k.wrap (.ofNat m)) K) (fI (k.wrap (.ofNat m)) K) (fI (k.wrap (.ofNat m)) K) (K (.ofNat m)) (fI (k.wrap (.ofNat m)) K) (fI (k.wrap (.ofNat m)) K) (fI (k.wrap (.ofNat m)) K) (fI (k.wrap (.ofNat m)) K) k) (fI (k.wrap (.ofNat m)) K)) (fun m => fI (k.wrap (.negSucc m)) K) n

/-! ### cases -/
section
variable {β : Type} (F : β)
noncomputable def oneK (K : Cell → β) (v : V) : β := V.rec (motive := fun _ => β) F F K (fun _ => F) (fun _ => F) v
noncomputable def aggK (K : List Cell → β) (v : V) : β := V.rec (motive := fun _ => β) F F (fun _ => F) K (fun _ => F) v
noncomputable def tupK (K : List (Bool × List Cell) → β) (v : V) : β := V.rec (motive := fun _ => β) F F (fun _ => F) (fun _ => F) K v
noncomputable def cellsK (K : List Cell → β) (v : V) : β := V.rec (motive := fun _ => β) F F (fun c => K [c]) K (fun _ => F) v
noncomputable def boolK (K : Bool → β) (c : Cell) : β := Cell.rec (motive := fun _ => β) K (fun _ _ => F) (fun _ => F) (fun _ => F) F (fun _ _ => F) F (fun _ _ _ _ => F) (fun _ => F) F c
noncomputable def intK (K : IntKind → Int → β) (c : Cell) : β := Cell.rec (motive := fun _ => β) (fun _ => F) K (fun _ => F) (fun _ => F) F (fun _ _ => F) F (fun _ _ _ _ => F) (fun _ => F) F c
noncomputable def strK (K : List UInt8 → β) (c : Cell) : β := Cell.rec (motive := fun _ => β) (fun _ => F) (fun _ _ => F) (fun _ => F) K F (fun _ _ => F) F (fun _ _ _ _ => F) (fun _ => F) F c
noncomputable def ptrK (K : Nat → Nat → β) (c : Cell) : β := Cell.rec (motive := fun _ => β) (fun _ => F) (fun _ _ => F) (fun _ => F) (fun _ => F) F K F (fun _ _ _ _ => F) (fun _ => F) F c
noncomputable def sliceK (K : Nat → Nat → Nat → Nat → β) (c : Cell) : β := Cell.rec (motive := fun _ => β) (fun _ => F) (fun _ _ => F) (fun _ => F) (fun _ => F) F (fun _ _ => F) F K (fun _ => F) F c
/-- nil, or a slice -/
noncomputable def rowK (Z : β) (K : Nat → Nat → Nat → Nat → β) (c : Cell) : β := Cell.rec (motive := fun _ => β) (fun _ => F) (fun _ _ => F) (fun _ => F) (fun _ => F) F (fun _ _ => F) Z K (fun _ => F) F c
/-- nil or empty, or a slice -/
noncomputable def rowEK (Z : β) (K : Nat → Nat → Nat → Nat → β) (c : Cell) : β := Cell.rec (motive := fun _ => β) (fun _ => F) (fun _ _ => F) (fun _ => F) (fun _ => F) F (fun _ _ => F) Z K (fun _ => F) Z c
noncomputable def mapK (K : Nat → β) (c : Cell) : β := Cell.rec (motive := fun _ => β) (fun _ => F) (fun _ _ => F) (fun _ => F) (fun _ => F) F (fun _ _ => F) F (fun _ _ _ _ => F) K F c
noncomputable def natK (K : Nat → β) (n : Int) : β := Int.rec (motive := fun _ => β) K (fun _ => F) n
/-- cells that may be read -/
noncomputable def blkK (K : List Cell → β) (b : Blk) : β := Blk.rec (motive := fun _ => β) F K K (fun _ => F) b
/-- cells that may be written -/
noncomputable def wblkK (K : List Cell → β) (b : Blk) : β := Blk.rec (motive := fun _ => β) F K (fun _ => F) (fun _ => F) b
noncomputable def mblkK (K : List (List UInt8 × Cell) → β) (b : Blk) : β := Blk.rec (motive := fun _ => β) F (fun _ => F) (fun _ => F) K b
noncomputable def someK {α : Type} (K : α → β) (x : Option α) : β := Option.rec (motive := fun _ => β) F K x
end

/-! ### constants -/
def ofVal : Value → Option Cell
  | .bool b => some (.bool b)
  | .int k n => some (.int k n)
  | .string s => some (.str s.data.toList)
  | .pointer none => some .nilp
  | .slice none 0 0 => some .nils
  | _ => none
def ofVals : List Value → Option (List Cell)
  | [] => some []
  | v :: l => match ofVal v with
    | some c => (match ofVals l with
      | some cs => some (c :: cs)
      | none => none)
    | none => none
def ofV : Value → V
  | .agg cs => match ofVals cs.toList with
    | some l => .agg l
    | none => .no
  | v => match ofVal v with
    | some c => .one c
    | none => .no

/-! ### operands: closed accessors -/
structure Get where
  f : E → V
noncomputable def gt : Operand → Get
  | .tmp t => ⟨(ea t).get⟩
  | .const v => ⟨fun _ => ofV v⟩
  | _ => ⟨fun _ => .no⟩

/-! ### memory -/
noncomputable def tl (l : List Cell) : List Cell := List.rec (motive := fun _ => List Cell) [] (fun _ l _ => l) l
noncomputable def skip (o : Nat) : List Cell → List Cell := Nat.rec (motive := fun _ => List Cell → List Cell) (fun l => l) (fun _ ih l => ih (tl l)) o
noncomputable def hdK {β : Type} (F : β) (K : Cell → β) (l : List Cell) : β := List.rec (motive := fun _ => β) F (fun c _ _ => K c) l
/-- the first n cells -/
noncomputable def takeK {β : Type} (F : β) (n : Nat) : List Cell → (List Cell → β) → β := Nat.rec (motive := fun _ => List Cell → (List Cell → β) → β) (fun _ K => K []) (fun _ ih l K => List.rec (motive := fun _ => β) F (fun c l _ => ih l fun r => K (c :: r)) l) n
noncomputable def row {β : Type} (l : List Cell) (o n : Nat) (K : List Cell → β) (F : β) : β := takeK F n (skip o l) K
/-- the list begun with other cells -/
noncomputable def over {β : Type} (F : β) (vs : List Cell) : List Cell → (List Cell → β) → β := List.rec (motive := fun _ => List Cell → (List Cell → β) → β) (fun l K => K l) (fun v _ ih l K => List.rec (motive := fun _ => β) F (fun _ l _ => ih l fun r => K (v :: r)) l) vs
noncomputable def put {β : Type} (F : β) (vs : List Cell) (o : Nat) : List Cell → (List Cell → β) → β := Nat.rec (motive := fun _ => List Cell → (List Cell → β) → β) (over F vs) (fun _ ih l K => List.rec (motive := fun _ => β) F (fun c l _ => ih l fun r => K (c :: r)) l) o
noncomputable def app {β : Type} (m : List Cell) (l : List Cell) : (List Cell → β) → β := List.rec (motive := fun _ => (List Cell → β) → β) (fun K => K m) (fun c _ ih K => ih fun r => K (c :: r)) l
noncomputable def len {α : Type} (l : List α) : Nat := List.rec (motive := fun _ => Nat) 0 (fun _ _ n => Nat.succ n) l
noncomputable def H.blk (h : H) (b : Nat) : Blk := (ha b).get h.tr
noncomputable def H.new (h : H) (b : Blk) (K : Nat → H → RV) : RV := ite' (Nat.blt h.next 65536) (fN (Nat.succ h.next) fun n => K h.next ⟨n, (ha h.next).set b h.tr⟩) (.bad 399)
noncomputable def H.put (h : H) (b : Nat) (blk : Blk) : H := ⟨h.next, (ha b).set blk h.tr⟩

variable (P : Program)
def aggD : TypeDesc → Bool
  | .struct _ | .array _ _ => true
  | _ => false
structure TI where
  agg : Bool
  size : Nat
  bytes : Nat
  zero : Option (List Cell)
  zone : Option Cell
  desc : TypeDesc
def cellsOf : V → Option (List Cell)
  | .one c => some [c]
  | .agg l => some l
  | _ => none
/-- a type's facts, read once -/
def ti (t : TypeId) : Option TI := match P.info? t with
  | some i => match P.underlying t with
    | some d => some ⟨aggD d, i.size, i.bytes, (match i.zero with
      | some z => cellsOf (ofV z)
      | none => none), (match i.zero with
      | some z => (match ofV z with
        | .one c => some c
        | _ => none)
      | none => none), d⟩
    | none => none
  | none => none

noncomputable def beqL (l : List UInt8) : List UInt8 → Bool := List.rec (motive := fun _ => List UInt8 → Bool) (fun m => List.rec (motive := fun _ => Bool) true (fun _ _ _ => false) m) (fun a _ ih m => List.rec (motive := fun _ => Bool) false (fun b m _ => ite' (Nat.beq a.toNat b.toNat) (ih m) false) m) l

/-! ### operators -/
noncomputable def intR (k : IntKind) (n : Int) (h : H) : RV := fW k n fun n => .ok (.one (.int k n)) h
noncomputable def boolR (b : Bool) (h : H) : RV := fB b fun r => .ok (.one (.bool r)) h
def kindB : IntKind → IntKind → Bool
  | .i64, .i64 | .i32, .i32 | .i16, .i16 | .i8, .i8 | .u64, .u64 | .u32, .u32 | .u16, .u16 | .u8, .u8 => true
  | _, _ => false
noncomputable def intEq (a b : Int) : Bool := Int.rec (motive := fun _ => Bool) (fun a => Int.rec (motive := fun _ => Bool) (fun b => Nat.beq a b) (fun _ => false) b) (fun a => Int.rec (motive := fun _ => Bool) (fun _ => false) (fun b => Nat.beq a b) b) a
noncomputable def intLe (a b : Int) : Bool := Int.rec (motive := fun _ => Bool) (fun a => Int.rec (motive := fun _ => Bool) (fun b => Nat.ble a b) (fun _ => false) b) (fun a => Int.rec (motive := fun _ => Bool) (fun _ => true) (fun b => Nat.ble b a) b) a
structure IOp where
  f : IntKind → Int → Int → H → RV
noncomputable def intOp : BinOp → IOp
  | .add => ⟨fun k a b => intR k (Int.add a b)⟩
  | .sub => ⟨fun k a b => intR k (Int.sub a b)⟩
  | .mul => ⟨fun k a b => intR k (Int.mul a b)⟩
  | .quo => ⟨fun k a b h => ite' (intEq b (.ofNat 0)) (.bad 20) (intR k (Int.tdiv a b) h)⟩
  | .rem => ⟨fun k a b h => ite' (intEq b (.ofNat 0)) (.bad 21) (fI (Int.tmod a b) fun n => .ok (.one (.int k n)) h)⟩
  | .eql => ⟨fun _ a b => boolR (intEq a b)⟩
  | .neq => ⟨fun _ a b => boolR (not (intEq a b))⟩
  | .lss => ⟨fun _ a b => boolR (not (intLe b a))⟩
  | .leq => ⟨fun _ a b => boolR (intLe a b)⟩
  | .gtr => ⟨fun _ a b => boolR (not (intLe a b))⟩
  | .geq => ⟨fun _ a b => boolR (intLe b a)⟩
  | _ => ⟨fun _ _ _ _ => .bad 1⟩
noncomputable def strOp (op : BinOp) (a b : List UInt8) (h : H) : RV := match op with
  | .add => fL (a ++ b) fun l => ite' (Nat.ble (len l) 1000000000) (.ok (.one (.str l)) h) (.bad 2)
  | .eql => boolR (beqL a b) h
  | .neq => boolR (not (beqL a b)) h
  | _ => .bad 3
/-- what '==' and '!=' answer -/
noncomputable def eqR (op : BinOp) (r : Bool) (h : H) : RV := match op with
  | .eql => boolR r h
  | .neq => boolR (not r) h
  | _ => .bad 4
noncomputable def bEq (a b : Bool) : Bool := ite' a b (not b)
def isBoolD : TypeDesc → Bool
  | .bool => true
  | _ => false
def isPtrD : TypeDesc → Bool
  | .pointer _ => true
  | _ => false
def isSliceD : TypeDesc → Bool
  | .slice _ => true
  | _ => false
def isStrD : TypeDesc → Bool
  | .string => true
  | _ => false
def isU8 : TypeDesc → Bool
  | .int .u8 => true
  | _ => false
noncomputable def onD (p : TypeDesc → Bool) (t : TypeId) (n : Nat) (r : RV) : RV := ite' (someK false (fun i => p i.desc) (ti P t)) r (.bad n)
noncomputable def bin (op : BinOp) (t : TypeId) (x y : Cell) (h : H) : RV :=
  Cell.rec (motive := fun _ => RV)
    (fun a => boolK (.bad 6) (fun b => onD P isBoolD t 7 (eqR op (bEq a b) h)) y)
    (fun k a => intK (.bad 8) (fun k' b => ite' (kindB k k') ((intOp op).f k a b h) (.bad 9)) y)
    (fun _ => .bad 10)
    (fun a => strK (.bad 11) (fun b => strOp op a b h) y)
    (Cell.rec (motive := fun _ => RV) (fun _ => .bad 12) (fun _ _ => .bad 12) (fun _ => .bad 12) (fun _ => .bad 12) (onD P isPtrD t 13 (eqR op true h)) (fun _ _ => onD P isPtrD t 13 (eqR op false h)) (.bad 12) (fun _ _ _ _ => .bad 12) (fun _ => .bad 12) (.bad 12) y)
    (fun _ _ => Cell.rec (motive := fun _ => RV) (fun _ => .bad 14) (fun _ _ => .bad 14) (fun _ => .bad 14) (fun _ => .bad 14) (onD P isPtrD t 13 (eqR op false h)) (fun _ _ => .bad 14) (.bad 14) (fun _ _ _ _ => .bad 14) (fun _ => .bad 14) (.bad 14) y)
    (rowK (.bad 15) (onD P isSliceD t 13 (eqR op true h)) (fun _ _ _ _ => .bad 16) y)
    (fun _ _ _ _ => rowK (.bad 15) (onD P isSliceD t 13 (eqR op false h)) (fun _ _ _ _ => .bad 16) y)
    (fun _ => .bad 17) (.bad 18) x

/-! ### literals -/
structure Part where
  off : Nat
  size : Nat
  get : Get
noncomputable def fill (e : E) (F : RV) (parts : List Part) : List Cell → (List Cell → RV) → RV := List.rec (motive := fun _ => List Cell → (List Cell → RV) → RV) (fun cs K => K cs)
  (fun p _ ih cs K => cellsK F (fun vs => ite' (Nat.beq (len vs) p.size) (put F vs p.off cs fun cs' => ih cs' K) F) (p.get.f e)) parts
def fieldAt (fs : List Field) (i : Nat) : Option (Nat × Nat) := match fs[i]? with
  | some f => (match ti P f.type with
    | some t => some (f.offset, t.size)
    | none => none)
  | none => none
noncomputable def partsOf (pl : Nat → Option (Nat × Nat)) : List (Nat × Operand) → Option (List Part)
  | [] => some []
  | (i, x) :: l => match pl i with
    | some (o, s) => (match partsOf pl l with
      | some r => some (⟨o, s, gt x⟩ :: r)
      | none => none)
    | none => none
noncomputable def reps (z : List Cell) (n : Nat) : List Cell := Nat.rec (motive := fun _ => List Cell) [] (fun _ r => app r z fun r => r) n

/-! ### operations, boxed -/
structure OpF where
  f : E → H → RV
noncomputable def oMove (x : Get) : OpF := ⟨fun e h => V.rec (motive := fun _ => RV) (.bad 100) (.bad 100) (fun c => .ok (.one c) h) (fun l => .ok (.agg l) h) (fun l => .ok (.tup l) h) (x.f e)⟩
noncomputable def oPick (c a b : Get) : OpF := ⟨fun e h => oneK (.bad 101) (boolK (.bad 102) fun q => ite' q ((oMove a).f e h) ((oMove b).f e h)) (c.f e)⟩
noncomputable def newR (l : List Cell) (h : H) : RV := h.new (.cells l) fun b h => .ok (.one (.ptr b 0)) h
noncomputable def oAlloc (z : Option (List Cell)) : OpF := match z with
  | some l => ⟨fun _ h => newR l h⟩
  | none => ⟨fun _ _ => .bad 103⟩
noncomputable def oBox (x : Get) : OpF := ⟨fun e h => cellsK (.bad 104) (fun l => newR l h) (x.f e)⟩
noncomputable def oBuild (t : TypeId) (parts : List (Nat × Operand)) : OpF := match ti P t with
  | some i => (match i.zero with
    | some zs => (match i.desc with
      | .struct fields => (match fields.toList.mapM (fun f => (P.info? f.type).map fun i => (f.offset, i.size)) with
        | none => ⟨fun _ _ => .bad 106⟩
        | some places => (match partsOf (fun i => places[i]?) parts with
        | some ps => ⟨fun e h => fill e (.bad 105) ps zs fun cs => .ok (.agg cs) h⟩
        | none => ⟨fun _ _ => .bad 106⟩))
      | _ => ⟨fun _ _ => .bad 107⟩)
    | none => ⟨fun _ _ => .bad 108⟩)
  | none => ⟨fun _ _ => .bad 109⟩
noncomputable def oLit (t : TypeId) (n : Nat) (parts : List (Nat × Operand)) : OpF := match ti P t with
  | some i => (match i.desc with
    | .slice el => (match ti P el with
      | some j => (match j.zero with
        | some zs => (match Nat.ble (n * j.size) 16777216 with
          | true => (match Nat.beq (len zs) j.size with
            | false => ⟨fun _ _ => .bad 111⟩
            | true => (match partsOf (fun i => some (i * j.size, j.size)) parts with
            | some ps => ⟨fun e h => fill e (.bad 110) ps (reps zs n) fun cs => h.new (.cells cs) fun b h => .ok (.one (.slice b 0 n j.size)) h⟩
            | none => ⟨fun _ _ => .bad 111⟩))
          | false => ⟨fun _ _ => .bad 112⟩)
        | none => ⟨fun _ _ => .bad 113⟩)
      | none => ⟨fun _ _ => .bad 114⟩)
    | _ => ⟨fun _ _ => .bad 115⟩)
  | none => ⟨fun _ _ => .bad 116⟩
noncomputable def oLoad (t : TypeId) (x : Get) : OpF := match ti P t with
  | some i => (match i.agg with
    | false => ⟨fun e h => oneK (.bad 117) (ptrK (.bad 118) fun b o => blkK (.bad 119) (fun l => hdK (.bad 120) (fun c => .ok (.one c) h) (skip o l)) (h.blk b)) (x.f e)⟩
    | true => ⟨fun e h => oneK (.bad 117) (ptrK (.bad 118) fun b o => blkK (.bad 119) (fun l => row l o i.size (fun r => .ok (.agg r) h) (.bad 120)) (h.blk b)) (x.f e)⟩)
  | none => ⟨fun _ _ => .bad 121⟩
noncomputable def oStore (t : TypeId) (a x : Get) : OpF := match ti P t with
  | some i => ⟨fun e h => oneK (.bad 122) (ptrK (.bad 123) fun b o => wblkK (.bad 124) (fun l => cellsK (.bad 125) (fun vs => ite' (Nat.beq (len vs) i.size) (put (.bad 126) vs o l fun l' => .ok .undef (h.put b (.cells l'))) (.bad 127)) (x.f e)) (h.blk b)) (a.f e)⟩
  | none => ⟨fun _ _ => .bad 128⟩
noncomputable def oNil (x : Get) : OpF := ⟨fun e h => oneK (.bad 129) (ptrK (.bad 130) fun b o => .ok (.one (.ptr b o)) h) (x.f e)⟩
noncomputable def oBin (op : BinOp) (t : TypeId) (x y : Get) : OpF := ⟨fun e h => oneK (.bad 131) (fun a => oneK (.bad 132) (fun b => bin P op t a b h) (y.f e)) (x.f e)⟩
noncomputable def oUn (op : UnOp) (x : Get) : OpF := match op with
  | .not => ⟨fun e h => oneK (.bad 133) (boolK (.bad 134) fun b => boolR (not b) h) (x.f e)⟩
  | .neg => ⟨fun e h => oneK (.bad 135) (intK (.bad 136) fun k n => intR k (Int.sub 0 n) h) (x.f e)⟩
  | _ => ⟨fun _ _ => .bad 137⟩
noncomputable def oConv (s d : TypeId) (x : Get) : OpF := match ti P s with
  | some si => (match ti P d with
    | some di => (match di.desc with
      | .int k => ⟨fun e h => oneK (.bad 141) (intK (.bad 142) fun _ n => intR k n h) (x.f e)⟩
      | .slice el => (match si.desc with
        | .slice _ => ⟨fun e h => onD P isU8 el 149 (ite' (Nat.beq s d) (oneK (.bad 150) (sliceK (.bad 151) fun b o n sz => blkK (.bad 150) (fun l => .ok (.one (.slice b o n sz)) (h.put b (.ro l))) (h.blk b)) (x.f e)) (.bad 152))⟩
        | _ => ⟨fun _ _ => .bad 153⟩)
      | _ => ⟨fun _ _ => .bad 154⟩)
    | none => ⟨fun _ _ => .bad 155⟩)
  | none => ⟨fun _ _ => .bad 156⟩
noncomputable def bnd (e : E) (x : Option Get) (d : Nat) (K : Nat → RV) : RV := someK (K d) (fun x => oneK (.bad 157) (intK (.bad 158) fun _ n => natK (.bad 159) K n) (x.f e)) x
noncomputable def gto (x : Option Operand) : Option Get := match x with
  | some x => some (gt x)
  | none => none
noncomputable def cutStr (l : List UInt8) (a b : Nat) (h : H) : RV := ite' (Nat.ble a b) (ite' (Nat.ble b (len l)) (fL ((l.drop a).take (b - a)) fun l => .ok (.one (.str l)) h) (.bad 160)) (.bad 161)
noncomputable def cutRow (bl o n sz a b : Nat) (h : H) : RV := ite' (Nat.ble b n) (ite' (Nat.blt a b) (fN (Nat.add o (Nat.mul a sz)) fun o' => fN (Nat.sub b a) fun n' => .ok (.one (.slice bl o' n' sz)) h)
  (ite' (Nat.beq a b) (ite' (Nat.beq a 0) (.ok (.one (.slice bl o 0 sz)) h) (.ok (.one .emp) h)) (.bad 163))) (.bad 162)
noncomputable def oSlice (t : TypeId) (x : Operand) (lo hi : Option Operand) : OpF := match ti P t with
  | some i => (match i.desc with
    | .string => ⟨fun e h => oneK (.bad 164) (strK (.bad 165) fun l => bnd e (gto lo) 0 fun a => bnd e (gto hi) (len l) fun b => cutStr l a b h) ((gt x).f e)⟩
    | .slice el => (match ti P el with
      | some j => ⟨fun e h => oneK (.bad 166) (rowK (.bad 167) (bnd e (gto lo) 0 fun a => bnd e (gto hi) 0 fun b => ite' (Nat.beq (a + b) 0) (.ok (.one .nils) h) (.bad 168)) fun bl o n sz => ite' (Nat.beq j.size sz) (bnd e (gto lo) 0 fun a => bnd e (gto hi) n fun b => cutRow bl o n sz a b h) (.bad 169)) ((gt x).f e)⟩
      | none => ⟨fun _ _ => .bad 170⟩)
    | _ => ⟨fun _ _ => .bad 171⟩)
  | none => ⟨fun _ _ => .bad 172⟩
noncomputable def oField (s : TypeId) (x : Get) (f : Nat) : OpF := match ti P s with
  | some i => (match i.desc with
    | .struct fields => (match fieldAt P fields.toList f with
      | some (off, .succ _) => ⟨fun e h => oneK (.bad 173) (ptrK (.bad 174) fun b o => fN (Nat.add o off) fun o' => .ok (.one (.ptr b o')) h) (x.f e)⟩
      | _ => ⟨fun _ _ => .bad 175⟩)
    | _ => ⟨fun _ _ => .bad 176⟩)
  | none => ⟨fun _ _ => .bad 177⟩
noncomputable def oFld (s : TypeId) (x : Get) (f : Nat) : OpF := match ti P s with
  | some i => (match i.desc with
    | .struct fields => (match fields.toList[f]? with
      | some fl => (match ti P fl.type with
        | some j => (match j.agg with
          | false => ⟨fun e h => aggK (.bad 178) (fun l => hdK (.bad 179) (fun c => .ok (.one c) h) (skip fl.offset l)) (x.f e)⟩
          | true => ⟨fun e h => aggK (.bad 178) (fun l => row l fl.offset j.size (fun r => .ok (.agg r) h) (.bad 179)) (x.f e)⟩)
        | none => ⟨fun _ _ => .bad 180⟩)
      | none => ⟨fun _ _ => .bad 181⟩)
    | _ => ⟨fun _ _ => .bad 182⟩)
  | none => ⟨fun _ _ => .bad 183⟩
noncomputable def oIndex (t : TypeId) (x i : Get) : OpF := match ti P t with
  | some ti1 => (match ti1.desc with
    | .slice el => (match ti P el with
      | some j => ⟨fun e h => oneK (.bad 184) (sliceK (.bad 185) fun b o n sz => ite' (Nat.beq j.size sz) (oneK (.bad 186) (intK (.bad 187) fun _ i => natK (.bad 188) (fun i => ite' (Nat.blt i n) (fN (Nat.add o (Nat.mul i sz)) fun o' => .ok (.one (.ptr b o')) h) (.bad 189)) i) (i.f e)) (.bad 190)) (x.f e)⟩
      | none => ⟨fun _ _ => .bad 191⟩)
    | _ => ⟨fun _ _ => .bad 192⟩)
  | none => ⟨fun _ _ => .bad 193⟩
noncomputable def tlB (l : List UInt8) : List UInt8 := List.rec (motive := fun _ => List UInt8) [] (fun _ l _ => l) l
noncomputable def skipB (o : Nat) : List UInt8 → List UInt8 := Nat.rec (motive := fun _ => List UInt8 → List UInt8) (fun l => l) (fun _ ih l => ih (tlB l)) o
noncomputable def byteR (l : List UInt8) (h : H) : RV := List.rec (motive := fun _ => RV) (.bad 194) (fun b _ _ => fN b.toNat fun n => .ok (.one (.int .u8 (.ofNat n))) h) l
noncomputable def oIdx (t : TypeId) (x i : Get) : OpF := ⟨fun e h => onD P isStrD t 195 (oneK (.bad 196) (strK (.bad 197) fun l => oneK (.bad 198) (intK (.bad 199) fun _ j => natK (.bad 200) (fun j => byteR (skipB j l) h) j) (i.f e)) (x.f e))⟩
noncomputable def oneOf (x : Bool × List Cell) (h : H) : RV := ite' x.1 (.ok (.agg x.2) h) (hdK (.bad 201) (fun c => .ok (.one c) h) x.2)
noncomputable def oExt (x : Get) (i : Nat) : OpF := ⟨fun e h => tupK (.bad 202) (fun l => someK (.bad 203) (fun p => oneOf p h) l[i]?) (x.f e)⟩
noncomputable def oMap : OpF := ⟨fun _ h => h.new (.map []) fun b h => .ok (.one (.map b)) h⟩
noncomputable def findK (s : List UInt8) (l : List (List UInt8 × Cell)) : Option Cell := List.rec (motive := fun _ => Option Cell) none (fun p _ ih => ite' (beqL s p.1) (some p.2) ih) l
noncomputable def updK {β : Type} (s : List UInt8) (c : Cell) (l : List (List UInt8 × Cell)) : (List (List UInt8 × Cell) → β) → β := List.rec (motive := fun _ => (List (List UInt8 × Cell) → β) → β) (fun K => K [(s, c)]) (fun p l ih K => ite' (beqL s p.1) (K ((s, c) :: l)) (ih fun l' => K (p :: l'))) l
noncomputable def foundR (ok : Bool) (z : Cell) (c : Option Cell) (h : H) : RV := someK
  (ite' ok (.ok (.tup [(false, [z]), (false, [.bool false])]) h) (.ok (.one z) h))
  (fun c => ite' ok (.ok (.tup [(false, [c]), (false, [.bool true])]) h) (.ok (.one c) h)) c
noncomputable def oLook (t : TypeId) (m k : Get) (ok : Bool) : OpF := match ti P t with
  | some i => (match i.desc with
    | .map kt vt => (match ti P vt with
      | some j => (match j.zone with
        | some z => ⟨fun e h => onD P isStrD kt 204 (oneK (.bad 205) (mapK (.bad 206) fun b => oneK (.bad 207) (strK (.bad 208) fun s => mblkK (.bad 209) (fun es => foundR ok z (findK s es) h) (h.blk b)) (k.f e)) (m.f e))⟩
        | _ => ⟨fun _ _ => .bad 210⟩)
      | none => ⟨fun _ _ => .bad 211⟩)
    | _ => ⟨fun _ _ => .bad 212⟩)
  | none => ⟨fun _ _ => .bad 213⟩
noncomputable def oUpd (t : TypeId) (m k v : Get) : OpF := match ti P t with
  | some i => (match i.desc with
    | .map kt vt => ⟨fun e h => onD P isStrD kt 214 (oneK (.bad 215) (mapK (.bad 216) fun b => oneK (.bad 217) (strK (.bad 218) fun s => mblkK (.bad 219) (fun es => oneK (.bad 220) (fun c => updK s c es fun es' => .ok .undef (h.put b (.map es'))) (v.f e)) (h.blk b)) (k.f e)) (m.f e))⟩
    | _ => ⟨fun _ _ => .bad 221⟩)
  | none => ⟨fun _ _ => .bad 222⟩
noncomputable def oLen (t : TypeId) (x : Get) : OpF := match ti P t with
  | some i => (match i.desc with
    | .string => ⟨fun e h => oneK (.bad 223) (strK (.bad 224) fun l => fN (len l) fun n => .ok (.one (.int .i64 (.ofNat n))) h) (x.f e)⟩
    | .slice _ => ⟨fun e h => oneK (.bad 225) (rowEK (.bad 226) (.ok (.one (.int .i64 (.ofNat 0))) h) fun _ _ n _ => .ok (.one (.int .i64 (.ofNat n))) h) (x.f e)⟩
    | _ => ⟨fun _ _ => .bad 227⟩)
  | none => ⟨fun _ _ => .bad 228⟩
/-- a row of cells r (m elements) behind the slice of n elements that ends at its block's end, or lies within it -/
noncomputable def appAt (l r : List Cell) (b n m sz : Nat) (h : H) : RV := ite' (Nat.beq (len l) (Nat.mul n sz))
  (app r l fun lr => (h.put b .no).new (.cells lr) fun b' h => fN (Nat.add n m) fun nm => .ok (.one (.slice b' 0 nm sz)) h)
  (ite' (Nat.ble (Nat.mul (Nat.add n m) sz) (len l))
    (put (.bad 229) r (Nat.mul n sz) l fun l' => fN (Nat.add n m) fun nm => .ok (.one (.slice b 0 nm sz)) (h.put b (.cells l')))
    (.bad 230))
noncomputable def appRow (s : Cell) (r : List Cell) (m sz : Nat) (h : H) : RV := rowK (.bad 231)
  (ite' (Nat.ble m 1000000) (h.new (.cells r) fun b h => .ok (.one (.slice b 0 m sz)) h) (.bad 229))
  (fun b o n sz1 => ite' (Nat.ble (Nat.add n m) 1000000) (ite' (Nat.beq o 0) (ite' (Nat.beq sz sz1) (wblkK (.bad 232) (fun l => appAt l r b n m sz h) (h.blk b)) (.bad 233)) (.bad 234)) (.bad 229)) s
/-- nothing is appended -/
noncomputable def appNo (s : Cell) (h : H) : RV := rowEK (.bad 228) (.ok (.one s) h) (fun _ _ _ _ => .ok (.one s) h) s
noncomputable def appTo (s : Cell) (sz : Nat) (z : Cell) (h : H) : RV := rowEK (.bad 235) (appNo s h)
  (fun b2 o2 m sz2 => Nat.rec (motive := fun _ => RV) (appNo s h) (fun _ _ => ite' (Nat.beq sz sz2) (blkK (.bad 236) (fun l2 => row l2 o2 (Nat.mul m sz) (fun r => appRow s r m sz h) (.bad 237)) (h.blk b2)) (.bad 238)) m) z
noncomputable def oApp (t t2 : TypeId) (x y : Get) : OpF := match ti P t with
  | some i => (match i.desc with
    | .slice el => (match ti P el with
      | some j => (match j.zero with
        | some zs => (match Nat.ble j.bytes 1000000 && (Nat.beq t t2 && (Nat.beq (len zs) j.size && Nat.blt 0 j.size)) with
          | true => ⟨fun e h => oneK (.bad 240) (fun s => oneK (.bad 241) (fun z => appTo s j.size z h) (y.f e)) (x.f e)⟩
          | false => ⟨fun _ _ => .bad 242⟩)
        | none => ⟨fun _ _ => .bad 242⟩)
      | none => ⟨fun _ _ => .bad 242⟩)
    | _ => ⟨fun _ _ => .bad 243⟩)
  | none => ⟨fun _ _ => .bad 244⟩
noncomputable def oBuiltin (b : Builtin) (args : List Operand) (ts : List TypeId) : OpF := match b with
  | .len => (match args with
    | [x] => (match ts with
      | [t] => oLen P t (gt x)
      | _ => ⟨fun _ _ => .bad 245⟩)
    | _ => ⟨fun _ _ => .bad 246⟩)
  | .append => (match args with
    | [x, y] => (match ts with
      | [t, t2] => oApp P t t2 (gt x) (gt y)
      | _ => ⟨fun _ _ => .bad 247⟩)
    | _ => ⟨fun _ _ => .bad 248⟩)
  | _ => ⟨fun _ _ => .bad 249⟩

noncomputable def op1 (o : Op) : OpF :=
  match o with
  | .move x => oMove (gt x)
  | .assign x => oMove (gt x)
  | .pick c a b => oPick (gt c) (gt a) (gt b)
  | .alloc t => (match ti P t with
    | some i => oAlloc i.zero
    | none => ⟨fun _ _ => .bad 250⟩)
  | .box _ x => oBox (gt x)
  | .build t parts => oBuild P t parts.toList
  | .buildSlice t n parts => oLit P t n parts.toList
  | .load t a => oLoad P t (gt a)
  | .store t a x => oStore P t (gt a) (gt x)
  | .nilCheck x => oNil (gt x)
  | .binOp op t x y _ => oBin P op t (gt x) (gt y)
  | .unOp op _ x => oUn op (gt x)
  | .convert s d x => oConv P s d (gt x)
  | .slice t x lo hi none => oSlice P t x lo hi
  | .fieldAddr s x f => oField P s (gt x) f
  | .field s x f => oFld P s (gt x) f
  | .indexAddr t x i => oIndex P t (gt x) (gt i)
  | .index t x i => oIdx P t (gt x) (gt i)
  | .extract x i => oExt (gt x) i
  | .makeMap _ none => oMap
  | .lookup t m k ok => oLook P t (gt m) (gt k) ok
  | .mapUpdate t m k v => oUpd P t (gt m) (gt k) (gt v)
  | .call c => (match c.callee with
    | .builtin b => oBuiltin P b c.args.toList c.argTypes.toList
    | _ => ⟨fun _ _ => .bad 251⟩)
  | _ => ⟨fun _ _ => .bad 252⟩

/-! ### instructions -/
abbrev Run := Nat → List V → H → RV
noncomputable def argsK (e : E) (F : RV) (xs : List Get) : (List V → RV) → RV := List.rec (motive := fun _ => (List V → RV) → RV) (fun K => K []) (fun x _ ih K => V.rec (motive := fun _ => RV) F F (fun c => ih fun r => K (.one c :: r)) (fun l => ih fun r => K (.agg l :: r)) (fun l => ih fun r => K (.tup l :: r)) (x.f e)) xs
structure Ins where
  guard : E → RE → RE → RE
  dst : V → E → E
  op : Run → E → H → RV
noncomputable def guardF (all : List Oper) : Option (Nat × Bool) → (E → RE → RE → RE)
  | none => fun _ x _ => x
  | some (j, want) => match all[j]? with
    | some o => (match o.dst with
      | some d => fun e x y => V.rec (motive := fun _ => RE) (.bad 301) y (boolK (.bad 302) fun b => ite' (bEq b want) x y) (fun _ => .bad 301) (fun _ => .bad 301) ((ea d).get e)
      | none => fun _ _ _ => .bad 303)
    | none => fun _ _ _ => .bad 304
noncomputable def opI (o : Op) : Run → E → H → RV := match o with
  | .call c => (match c.callee with
    | .value (.func f) => let gs := c.args.toList.map gt; fun run e h => argsK e (.bad 305) gs fun vs => run f vs h
    | _ => fun _ => (op1 P o).f)
  | _ => fun _ => (op1 P o).f
noncomputable def insOf (all : List Oper) (o : Oper) : Ins := ⟨guardF all o.guard, (match o.dst with
  | some d => (ea d).set
  | none => fun _ e => e), opI P o.op⟩
/-! ### regions whose order is drawn: what may change places -/
def oT : Operand → List Nat
  | .tmp t => [t]
  | _ => []
def oO : Option Operand → List Nat
  | some x => oT x
  | none => []
/-- the slots that an operation reads -/
def opTmps : Op → List Nat
  | .move x | .assign x | .box _ x | .load _ x | .nilCheck x | .unOp _ _ x | .convert _ _ x | .fieldAddr _ x _ | .field _ x _ | .extract x _ => oT x
  | .pick c a b => oT c ++ (oT a ++ oT b)
  | .build _ ps | .buildSlice _ _ ps => ps.toList.flatMap fun p => oT p.2
  | .store _ a v | .binOp _ _ a v _ | .indexAddr _ a v | .index _ a v | .lookup _ a v _ => oT a ++ oT v
  | .slice _ x l h _ => oT x ++ (oO l ++ oO h)
  | .mapUpdate _ m k v => oT m ++ (oT k ++ oT v)
  | .call c => c.args.toList.flatMap oT
  | _ => []
def guardTmps (all : List Oper) : Option (Nat × Bool) → List Nat
  | some (g, _) => (match all[g]? with
    | some p => (match p.dst with
      | some d => [d]
      | none => [])
    | none => [])
  | none => []
def isIntT (t : TypeId) : Bool := match ti P t with
  | some i => (match i.desc with
    | .int _ => true
    | _ => false)
  | none => false
/-- does not look at the memory, and leaves it -/
def pureO : Op → Bool
  | .move _ | .assign _ | .pick _ _ _ | .nilCheck _ | .binOp _ _ _ _ _ | .unOp _ _ _ | .fieldAddr _ _ _ | .field _ _ _ | .indexAddr _ _ _ | .index _ _ _ | .extract _ _ | .slice _ _ _ _ _ | .build _ _ => true
  | .convert _ d _ => isIntT P d
  | .call c => (match c.callee with
    | .builtin .len => true
    | _ => false)
  | _ => false
/-- leaves the memory -/
def quietO : Op → Bool
  | .load _ _ | .lookup _ _ _ _ => true
  | o => pureO P o
def quietC : Code → Bool
  | .skip => true
  | .region _ ops _ => ops.toList.all fun o => quietO P o.op
  | .seq a b => quietC a && quietC b
  | .cond _ a b => quietC a && quietC b
  | .block _ a => quietC a
  | .loop a => quietC a
  | .exit _ => true
  | .ret => true
  | _ => false
def quietF (f : Nat) : Bool := match P.funcs.toList[f]? with
  | some fn => (match fn.body with
    | some c => quietC P c
    | none => false)
  | none => false
/-- 0: pure; 1: looks at the memory; 2: changes it -/
def kindO (o : Op) : Nat := match pureO P o with
  | true => 0
  | false => (match o with
    | .load _ _ => 1
    | .lookup _ _ _ _ => 1
    | .call c => (match c.callee with
      | .value (.func f) => (match quietF P f with
        | true => 1
        | false => 2)
      | _ => 2)
    | _ => 2)
structure Inf where
  ix : Nat
  w : Option Nat
  r : List Nat
  k : Nat
  an : Nat
def ancE (M : List Nat) : List Edge → Nat → Nat
  | [], m => m
  | e :: l, m => ancE M l (match Region.binds .any e with
    | true => Nat.lor m (Nat.lor (Nat.shiftLeft 1 e.on) (M.getD e.on 0))
    | false => m)
noncomputable def ancs : List Oper → List Nat → List Nat
  | [], M => M
  | o :: os, M => fN (ancE M o.after.toList 0) fun m => ancs os (M ++ [m])
def infs (all : List Oper) (M : List Nat) : Nat → List Oper → List Inf
  | _, [] => []
  | i, o :: os => ⟨i, o.dst, opTmps o.op ++ guardTmps all o.guard, kindO P o.op, M.getD i 0⟩ :: infs all M (Nat.succ i) os
def has (l : List Nat) (t : Nat) : Bool := l.any (Nat.beq t)
def ordd (a b : Inf) : Bool := b.an.testBit a.ix || a.an.testBit b.ix
def wOk (a b : Inf) : Bool := match a.w with
  | some t => (match b.w with
    | some u => !(Nat.beq t u)
    | none => true)
  | none => true
def rOk (a b : Inf) : Bool := match a.w with
  | some t => !(has b.r t) || ordd a b
  | none => true
def pairOk (a b : Inf) : Bool := wOk a b && (rOk a b && (rOk b a && (!(Nat.beq a.k 2 && Nat.beq b.k 2) || b.an.testBit a.ix)))
def pairsOk : List Inf → Bool
  | [] => true
  | a :: l => l.all (pairOk a) && pairsOk l
def hard (I : List Inf) (a : Inf) : Bool := Nat.beq a.k 1 && I.any fun c => Nat.beq c.k 2 && !(ordd a c)
def posOk (I : List Inf) (a : Inf) (k : Nat) : Bool := I.all fun c => !(Nat.beq c.k 2) || (match Nat.blt c.ix k with
  | true => !(c.an.testBit a.ix)
  | false => !(a.an.testBit c.ix))
def posS (I : List Inf) (a : Inf) : List Nat := (0 :: (I.filter fun c => Nat.beq c.k 2).map fun c => Nat.succ c.ix).filter (posOk I a)
def lateOk (I : List Inf) (a : Inf) : Bool := I.all fun c => match c.w with
  | some t => !(has a.r t) || Nat.blt c.ix a.ix
  | none => true
structure Chk where
  ins : Ins
  d : E → V
  at_ : List Nat
noncomputable def cksOf (all : List Oper) (I : List Inf) (n : Nat) : List Oper → List Inf → Option (List Chk)
  | o :: os, a :: as => (match cksOf all I n os as with
    | some l => (match hard I a with
      | true => (match o.dst with
        | some d => (match lateOk I a with
          | true => some (⟨insOf P all o, (ea d).get, (posS I a).map fun k => n - k⟩ :: l)
          | false => none)
        | none => none)
      | false => some l)
    | none => none)
  | _, _ => some []
def eqNs : List Nat → List Nat → Bool
  | [], [] => true
  | a :: l, b :: m => Nat.beq a b && eqNs l m
  | _, _ => false
def smallW (o : Oper) : Bool := match o.dst with
  | some d => Nat.blt d 256
  | none => true
def edgesOk : Nat → List Oper → Bool
  | _, [] => true
  | i, o :: os => o.after.toList.all (fun e => !(Region.binds .any e) || Nat.blt e.on i) && edgesOk (Nat.succ i) os
noncomputable def drawOf (all : List Oper) : Option (List Chk) :=
  let M := ancs all []
  let I := infs P all M 0 all
  match all.all smallW && (edgesOk 0 all && (eqNs (all.map fun o => ancE M o.after.toList 0) M && pairsOk I)) with
  | true => cksOf P all I all.length all I
  | false => none
structure Reg where
  l : List Ins
  hs : Bool
  ck : List Chk
def dstOk (nt : Nat) (o : Oper) : Bool := match o.dst with
  | some d => Nat.blt d nt
  | none => true
def badReg (n : Nat) : Reg := ⟨[⟨fun _ x _ => x, fun _ e => e, fun _ _ _ => .bad n⟩], false, []⟩
noncomputable def regOf (nt : Nat) (ops : Array Oper) (draw : Bool) : Reg := match ops.toList.all (dstOk nt) with
  | true => (match draw with
    | false => ⟨ops.toList.map (insOf P ops.toList), false, []⟩
    | true => (match drawOf P ops.toList with
      | some [] => ⟨ops.toList.map (insOf P ops.toList), false, []⟩
      | some (c :: l) => ⟨ops.toList.map (insOf P ops.toList), true, c :: l⟩
      | none => badReg 323))
  | false => badReg 321
/-! ### what is the same -/
noncomputable def eqC : Cell → Cell → Bool
  | .bool a, .bool b => bEq a b
  | .int k a, .int k' b => kindB k k' && intEq a b
  | .sym a, .sym b => Nat.beq a b
  | .str a, .str b => beqL a b
  | .nilp, .nilp => true
  | .ptr a b, .ptr c d => Nat.beq a c && Nat.beq b d
  | .nils, .nils => true
  | .slice a b c d, .slice a' b' c' d' => (Nat.beq a a' && Nat.beq b b') && (Nat.beq c c' && Nat.beq d d')
  | .map a, .map b => Nat.beq a b
  | .emp, .emp => true
  | _, _ => false
noncomputable def eqL : List Cell → List Cell → Bool
  | [], [] => true
  | a :: l, b :: m => eqC a b && eqL l m
  | _, _ => false
noncomputable def eqV : V → V → Bool
  | .one a, .one b => eqC a b
  | .agg a, .agg b => eqL a b
  | _, _ => false
noncomputable def insK (run : Run) (i : Ins) (ih : E → H → RE) (e : E) (h : H) : RE := i.guard e
  (RV.rec (motive := fun _ => RE) (fun v h' => ih (i.dst v e) h') (fun n => .bad n) (i.op run e h))
  (ih (i.dst .undef e) h)
noncomputable def ops1 (run : Run) (l : List Ins) : E → H → RE := List.rec (motive := fun _ => E → H → RE) (fun e h => .ok e h) (fun i _ ih => insK run i ih) l
noncomputable def opsH (run : Run) (l : List Ins) : E → H → List H → (E → H → List H → RE) → RE := List.rec (motive := fun _ => E → H → List H → (E → H → List H → RE) → RE) (fun e h hs K => K e h (h :: hs)) (fun i _ ih e h hs K => insK run i (fun e' h' => ih e' h' (h :: hs) K) e h) l
noncomputable def chkAt (run : Run) (c : Chk) (e : E) (hs : List H) (X : RE) : List Nat → RE
  | [] => X
  | p :: ps => (match hs[p]? with
    | some h => RV.rec (motive := fun _ => RE) (fun v _ => ite' (eqV v (c.d e)) (chkAt run c e hs X ps) (.bad 331)) (fun n => .bad n) (c.ins.op run e h)
    | none => .bad 332)
noncomputable def chks (run : Run) (e : E) (hs : List H) (X : RE) : List Chk → RE
  | [] => X
  | c :: l => c.ins.guard e (chkAt run c e hs (chks run e hs X l) c.at_) (chks run e hs X l)
noncomputable def regRun (run : Run) (r : Reg) (e : E) (h : H) : RE := ite' r.hs (opsH run r.l e h [] fun e h hs => chks run e hs (.ok e h) r.ck) (ops1 run r.l e h)

noncomputable def thenS (K : E → H → RS) (r : RS) : RS := RS.rec (motive := fun _ => RS) (fun e h => K e h) (fun i e h => .exit i e h) (fun e h => .ret e h) (fun n => .bad n) r
noncomputable def blockS (id : Nat) (r : RS) : RS := RS.rec (motive := fun _ => RS) (fun e h => .normal e h) (fun j e h => ite' (Nat.beq j id) (.normal e h) (.exit j e h)) (fun e h => .ret e h) (fun n => .bad n) r
noncomputable def loop1 (body : E → H → RS) (n : Nat) : E → H → RS := Nat.rec (motive := fun _ => E → H → RS) (fun _ _ => .bad 306) (fun _ ih e h => thenS ih (body e h)) n
noncomputable def code1 (nt : Nat) (run : Run) (c : Code) : E → H → RS :=
  Code.rec (motive := fun _ => E → H → RS)
    (fun e h => .normal e h)
    (fun _ ops draw e h => RE.rec (motive := fun _ => RS) (fun e h => .normal e h) (fun n => .bad n) (regRun run (regOf P nt ops draw) e h))
    (fun _ _ a b e h => thenS b (a e h))
    (fun c _ _ a b e h => oneK (.bad 307) (boolK (.bad 308) fun q => ite' q (a e h) (b e h)) ((gt c).f e))
    (fun id _ a e h => blockS id (a e h))
    (fun _ a => loop1 a 1000000)
    (fun _ _ _ _ _ _ _ _ => .bad 309)
    (fun id e h => .exit id e h)
    (fun _ _ _ _ => .bad 310)
    (fun _ _ _ => .bad 311)
    (fun _ _ _ => .bad 312)
    (fun e h => .ret e h)
    (fun _ _ _ => .bad 313)
    c

noncomputable def enterE (vs : List V) : Nat → E → E := List.rec (motive := fun _ => Nat → E → E) (fun _ e => e) (fun v _ ih i e => ih (Nat.succ i) ((ea i).set v e)) vs
structure ResF where
  f : E → H → (V → RV) → RV
noncomputable def resF : ResultVar → ResF
  | .tmp t => ⟨fun e _ K => V.rec (motive := fun _ => RV) (.bad 314) (.bad 314) (fun c => K (.one c)) (fun l => K (.agg l)) (fun l => K (.tup l)) ((ea t).get e)⟩
  | .cell a t => ⟨fun e h K => RV.rec (motive := fun _ => RV) (fun v _ => K v) (fun n => .bad n) ((oLoad P t ⟨(ea a).get⟩).f e h)⟩
noncomputable def resOf (e : E) (h : H) (l : List ResultVar) : (List V → RV) → RV := List.rec (motive := fun _ => (List V → RV) → RV) (fun K => K []) (fun r _ ih K => (resF P r).f e h fun v => ih fun l => K (v :: l)) l
noncomputable def tupOf (l : List V) : (List (Bool × List Cell) → RV) → RV := List.rec (motive := fun _ => (List (Bool × List Cell) → RV) → RV) (fun K => K []) (fun v _ ih K => V.rec (motive := fun _ => RV) (.bad 315) (.bad 315) (fun c => ih fun r => K ((false, [c]) :: r)) (fun cs => ih fun r => K ((true, cs) :: r)) (fun _ => .bad 316) v) l
noncomputable def resEnd (h : H) (l : List V) : RV := match l with
  | [v] => .ok v h
  | l => tupOf l fun r => .ok (.tup r) h
structure Fn1 where
  f : Run → List V → H → RV
noncomputable def fn1 (i : Nat) : Fn1 := match P.funcs.toList[i]? with
  | some fn => (match fn.body with
    | some c => ⟨fun run vs h => RS.rec (motive := fun _ => RV) (fun e h => resOf P e h fn.results.toList (resEnd h)) (fun _ _ _ => .bad 317) (fun e h => resOf P e h fn.results.toList (resEnd h)) (fun n => .bad n) (code1 P fn.ntmps run c (enterE vs 0 e0) h)⟩
    | none => ⟨fun _ _ _ => .bad 318⟩)
  | none => ⟨fun _ _ _ => .bad 319⟩
noncomputable def run (orc : Nat → List V → Option V) (n : Nat) : Run := Nat.rec (motive := fun _ => Run) (fun _ _ _ => .bad 320) (fun _ ih f vs h => someK ((fn1 P f).f ih vs h) (fun v => .ok v h) (orc f vs)) n
end Go.Proofs.Ytopganainjgmmaa.Ev
