/- A calculus of conditions over the model's code: 'V c fr w Q' reckons, for a piece of code, a frame of which some slots are known, and a world, a plain statement from which the code's 'wp' follows. For every program and every function. -/
import Derived.WalkKit
import Derived.RangeFuncSeq
import Derived.KernelRfl
set_option linter.unusedVariables false
set_option linter.unusedSimpArgs false
namespace Go.Vc
open Go
noncomputable section

/-! ### Frames of which some slots are known: what was written last stands first -/
abbrev Fr := List (Nat × Option Value)

def fget (fr : Fr) (t : Nat) : Option Value :=
  List.rec (motive := fun _ => Option Value) none (fun x _ ih => cond (Nat.beq t x.1) x.2 ih) fr

def ev (fr : Fr) : Operand → Option Value
  | .tmp t => fget fr t
  | .const v => some v
  | .global g => some (.pointer (some ⟨g, 0, none⟩))
  | .func f => some (.func (.func f) #[] #[])

def evs (fr : Fr) : List Operand → Option (List Value)
  | [] => some []
  | x :: r => match ev fr x with
    | some v => match evs fr r with
      | some l => some (v :: l)
      | none => none
    | none => none

/-- with a value that is there -/
def onV (x : Option Value) (k : Value → Prop) : Prop :=
  match x with
  | some v => k v
  | none => False

/-- the widest fence, in a round of a range over a function or in none -/
def W (rd : Option Nat) : Fence := { Fence.wide with round := rd }

/-! ### Words that stay in the statements -/
/-- a fork -/
def br (b : Bool) (x y : Prop) : Prop :=
  match b with
  | true => x
  | false => y

/-- a pointer that is not nil -/
def onP (p : Option Addr) (k : Addr → Prop) : Prop :=
  match p with
  | some a => k a
  | none => False

/-- a sum, a difference, a product that is in range -/
def inR (k : IntKind) (z : Int) : Prop := k.min ≤ z ∧ z ≤ k.max

/-- the byte at a place -/
def sb (s : ByteArray) (i : Int) : Int := ((s.data.toList[i.toNat]?).getD 0).toNat

/-- a new block -/
structure New (w : World) (o : Obj) (b : Nat) (w1 : World) : Prop where
  num : b = w.heap.size
  eq : w1 = w.alloc o

/-- a variable reads -/
def Ld (P : Program) (t : TypeId) (w : World) (a : Addr) (v : Value) : Prop := (loadVar t a).run P w = .ok v w
/-- a variable is written -/
def St (P : Program) (t : TypeId) (w : World) (a : Addr) (v : Value) (w1 : World) : Prop := (storeVar t a v).run P w = .ok () w1
/-- equality, where it may look into memory -/
def Eqv (P : Program) (op : BinOp) (t : TypeId) (x y : Operand) (w : World) (a b : Value) (r : Bool) : Prop :=
  (do eqGuard op t x y a b; binOp op t a b : Sem Value).run P w = .ok (.bool r) w
/-- a look into a map -/
def Lk (P : Program) (t : TypeId) (ok : Bool) (w : World) (m k v : Value) : Prop := (Instr.lookup t m k ok).run P w = .ok v w
/-- a map's length -/
def LenM (P : Program) (ts : Array TypeId) (t : TypeId) (w : World) (m v : Value) : Prop := (Builtin.len_ ts t #[m]).run P w = .ok v w
/-- bytes as a string -/
def B2S (P : Program) (src dst : TypeId) (w : World) (x v : Value) : Prop := (convert src dst x).run P w = .ok v w
/-- a string as bytes -/
def S2B (P : Program) (src dst : TypeId) (w : World) (x v : Value) (w1 : World) : Prop := (convert src dst x).run P w = .ok v w1
/-- append -/
def App (P : Program) (ts : Array TypeId) (t : TypeId) (w : World) (s x v : Value) (w1 : World) : Prop := (Builtin.append_ ts t #[s, x]).run P w = .ok v w1
/-- copy -/
def Cpy (P : Program) (ts : Array TypeId) (t : TypeId) (w : World) (d s v : Value) (w1 : World) : Prop := (Builtin.copy_ ts t #[d, s]).run P w = .ok v w1
/-- delete, clear -/
def Del (P : Program) (ts : Array TypeId) (t : TypeId) (w : World) (m k : Value) (w1 : World) : Prop := (Builtin.delete_ ts t #[m, k]).run P w = .ok (.tuple #[]) w1
def Clr (P : Program) (ts : Array TypeId) (t : TypeId) (w : World) (m : Value) (w1 : World) : Prop := (Builtin.clear_ ts t #[m]).run P w = .ok (.tuple #[]) w1
/-- a map's entry is written -/
def MUp (P : Program) (t : TypeId) (w : World) (m k v : Value) (w1 : World) : Prop := (Instr.mapUpdate t m k v).run P w = .ok () w1
def MEn (P : Program) (t : TypeId) (w : World) (m k v : Value) (w1 : World) : Prop := (Instr.mapEntry t m k).run P w = .ok v w1
def ESt (P : Program) (t : TypeId) (w : World) (m s v : Value) (w1 : World) : Prop := (Instr.entryStore t m s v).run P w = .ok () w1
/-- a new slice, a new map -/
def MkS (P : Program) (t : TypeId) (w : World) (l c v : Value) (w1 : World) : Prop := (Instr.makeSlice t l c).run P w = .ok v w1
def MkM (P : Program) (t : TypeId) (w : World) (r : Option Value) (v : Value) (w1 : World) : Prop := (Instr.makeMap t r).run P w = .ok v w1
/-- ranging over a string, a map -/
def Rng (P : Program) (t : TypeId) (w : World) (x v : Value) (w1 : World) : Prop := (Instr.range t x).run P w = .ok v w1
def Nxt (P : Program) (isS : Bool) (t : TypeId) (w : World) (it v : Value) (w1 : World) : Prop := (Instr.next it isS t).run P w = .ok v w1
def Etr (P : Program) (w : World) (it v : Value) (w1 : World) : Prop := (Instr.entry it).run P w = .ok v w1
/-- an assertion of a type -/
def TAs (P : Program) (xT t : TypeId) (ok : Bool) (w : World) (x v : Value) : Prop := (Instr.typeAssert x xT t ok).run P w = .ok v w
/-- a call of a Go function -/
structure CallV (P : Program) (f : FuncId) (args : List Value) (w : World) (R : Ending → World → Prop) : Prop where
  run : Calls P f args.toArray w R

/-- a call of what a range over a function hands to its iterator -/
structure YieldV (P : Program) (l : Nat) (args : List Value) (w : World) (R : Ending → World → Prop) : Prop where
  run : ∀ (rd : Option Nat) (n : Nat), YieldAt (W rd) n P l args.toArray w R
/-- a call of a function's value -/
def CallX (P : Program) (fv : Value) (args : List Value) (w : World) (R : Ending → World → Prop) : Prop :=
  match fv with
  | .func (.func g) fi ca => match P.funcs[g]? with
    | some fn => match fn.body with
      | some _ => CallV P g (fi.toList ++ args ++ ca.toList) w R
      | none => False
    | none => False
  | .func (.yield l) fi ca => match fi.toList, ca.toList with
    | [], [] => YieldV P l args w R
    | _, _ => False
  | _ => False
/-- a range over a function: whatever its record is -/
structure RangeP {St : Type} (P : Program) (gf : FuncId) (fi ca : List Value) (toA : St → List Value) (round : St → World → (World → (World → Prop) → Prop) → (World → Prop) → (World → Prop) → (Nat → World → Prop) → Prop) (w : World) (Qn Qr : Nat → World → Prop) (Qx : Nat → Nat → World → Prop) : Prop where
  mk' ::
  run : ∀ (D l : Nat) (w0 w1 : World) (rec : LoopState → Option Code → Obj), New w (.deferred (some [])) D w0 → New w0 (rec .ready none) l w1 →
    (∀ (s : St) (w' : World) (R : Ending → World → Prop),
      round s w' (fun w1 k => w1.heap[l]? = some (rec .ready none) ∧ k (w1.putObj l (rec .busy none)))
        (fun w2 => w2.heap[l]? = some (rec .busy none) ∧ R (.returned (.bool true)) (w2.putObj l (rec .ready none)))
        (fun w2 => w2.heap[l]? = some (rec .busy none) ∧ R (.returned (.bool false)) (w2.putObj l (rec .done (some .ret))))
        (fun id w2 => w2.heap[l]? = some (rec .busy none) ∧ R (.returned (.bool false)) (w2.putObj l (rec .done (some (.exit id))))) →
      w'.heap[l]? = some (rec .ready none) → CallX P (.func (.yield l) #[] #[]) (toA s) w' R) →
    CallV P gf (fi ++ [.func (.yield l) #[] #[]] ++ ca) w1 fun e w2 => ∃ v, e = .returned v ∧
      ((w2.heap[l]? = some (rec .ready none) ∧ Qn D (w2.putObj l (rec .exhausted none))) ∨
       (w2.heap[l]? = some (rec .done (some .ret)) ∧ Qr D (w2.putObj l (rec .exhausted (some .ret)))) ∨
       ∃ id, w2.heap[l]? = some (rec .done (some (.exit id))) ∧ Qx id D (w2.putObj l (rec .exhausted (some (.exit id)))))
/-- a function with code -/
def HasBody (P : Program) (gf : FuncId) : Prop := ∃ (fn : Func) (c : Code), P.funcs[gf]? = some fn ∧ fn.body = some c
/-- at a function's return the block of the rounds' deferred calls is shut -/
def ShutD (w : World) (D : Nat) (w1 : World) : Prop := w.heap[D]? = some (.deferred (some [])) ∧ w1 = w.putObj D (.deferred none)

/-- a loop: some invariant that falls -/
structure LoopP {St : Type} (body : St → World → (St → World → Prop) → Prop) (s : St) (w : World) : Prop where
  mk' ::
  run : ∃ I : Nat → St → World → Prop, (∃ n, I n s w) ∧ ∀ n s w, I n s w → body s w (fun s' w' => ∃ m, m < n ∧ I m s' w')

/-- ways that meet -/
structure JoinP {St : Type} (R : St → World → Prop) (X : (St → World → Prop) → Prop) : Prop where
  mk' ::
  run : X R

/-! ### A value of a type, its shape laid open -/
def exLs (f : TypeId → (List Value → Prop) → Prop) : List TypeId → (List Value → Prop) → Prop
  | [], C => C []
  | t :: r, C => f t (fun l => exLs f r (fun l' => C (l ++ l')))

/-- the cells of a value of a type -/
def exC (P : Program) : Nat → TypeId → (List Value → Prop) → Prop
  | 0, _, C => ∃ cs : List Value, C cs
  | n + 1, T, C =>
    match P.underlying T with
    | some .bool => ∃ b : Bool, C [.bool b]
    | some (.int k) => ∃ i : Int, C [.int k i]
    | some .string => ∃ s : ByteArray, C [.string s]
    | some (.pointer _) => ∃ p : Option Addr, C [.pointer p]
    | some (.slice _) => ∃ (a : Option Addr) (l c : Nat), C [.slice a l c]
    | some (.map _ _) => ∃ m : Option Nat, C [.map m]
    | some (.struct fs) => exLs (exC P n) (fs.toList.map (·.type)) C
    | some (.array _ _) => ∃ cs : List Value, C cs
    | _ => ∃ v : Value, C [v]

/-- a value of a type that is no tuple -/
def exV (P : Program) (T : TypeId) (C : Value → Prop) : Prop :=
  match P.underlying T with
  | some (.struct _) => exC P 8 T fun cs => C (.agg cs.toArray)
  | some (.array _ _) => ∃ cs : List Value, C (.agg cs.toArray)
  | some .bool => ∃ b : Bool, C (.bool b)
  | some (.int k) => ∃ i : Int, C (.int k i)
  | some .string => ∃ s : ByteArray, C (.string s)
  | some (.pointer _) => ∃ p : Option Addr, C (.pointer p)
  | some (.slice _) => ∃ (a : Option Addr) (l c : Nat), C (.slice a l c)
  | some (.map _ _) => ∃ m : Option Nat, C (.map m)
  | _ => ∃ v : Value, C v

def exVs (P : Program) : List TypeId → (List Value → Prop) → Prop
  | [], C => C []
  | t :: r, C => exV P t (fun v => exVs P r (fun l => C (v :: l)))

def exT (P : Program) (T : TypeId) (C : Value → Prop) : Prop :=
  match P.underlying T with
  | some (.tuple ts) => exVs P ts.toList fun vs => C (.tuple vs.toArray)
  | _ => exV P T C

/-! ### Operations that ask no memory -/
/-- force a list's spine -/
def force : List Value → (List Value → Prop) → Prop
  | [], k => k []
  | x :: r, k => force r (fun r' => k (x :: r'))

/-- force it, unless the type is a great one -/
def forceB (big : Bool) (l : List Value) (k : List Value → Prop) : Prop := match big with
  | true => k l
  | false => force l k

/-- cells written over others -/
def over : List Value → Nat → List Value → List Value
  | [], _, cs => cs
  | x :: r, 0, _ :: cs => x :: over r 0 cs
  | _ :: _, _, [] => []
  | l, n + 1, c :: cs => c :: over l n cs

/-- parts into places -/
def fillL (place : Nat → Option (Nat × Nat)) : List (Nat × Value) → List Value → Option (List Value)
  | [], cs => some cs
  | (i, v) :: r, cs =>
    match place i with
    | none => none
    | some (off, size) =>
      if v.cells.size ≠ size || off + v.cells.size > cs.length then none
      else fillL place r (over v.cells.toList off cs)

def partsOf (fr : Fr) : List (Nat × Operand) → Option (List (Nat × Value))
  | [] => some []
  | (i, x) :: r => match ev fr x with
    | some v => match partsOf fr r with
      | some l => some ((i, v) :: l)
      | none => none
    | none => none

def sizesOf (P : Program) : List Field → Option (List (Nat × Nat))
  | [] => some []
  | f :: r => match P.info? f.type with
    | some i => match sizesOf P r with
      | some l => some ((f.offset, i.size) :: l)
      | none => none
    | none => none

def zeroOf (P : Program) (t : TypeId) : Option Value := match P.info? t with
  | some i => i.zero
  | none => none

def sizeV (P : Program) (t : TypeId) : Option Nat := match P.info? t with
  | some i => some i.size
  | none => none

/-- a type of many cells -/
def bigT (P : Program) (t : TypeId) : Bool := match sizeV P t with
  | some n => Nat.blt 64 n
  | none => false
/-- the cells of a type's zero -/
def zl (P : Program) (t : TypeId) : List Value := match zeroOf P t with
  | some z => z.cells.toList
  | none => []

/-- the cells of a literal -/
def buildL (P : Program) (t : TypeId) (parts : List (Nat × Value)) : Option (List Value) :=
  match zeroOf P t with
  | none => none
  | some z =>
    match P.underlying t with
    | some (.struct fs) => match sizesOf P fs.toList with
      | some pl => fillL (fun i => pl[i]?) parts z.cells.toList
      | none => none
    | some (.array _ e) => match sizeV P e with
      | some n => fillL (fun i => some (i * n, n)) parts z.cells.toList
      | none => none
    | _ => none

def bigL (P : Program) (t : TypeId) (parts : List (Nat × Value)) : List Value := (buildL P t parts).getD []

def repL (z : List Value) : Nat → List Value
  | 0 => []
  | n + 1 => z ++ repL z n

/-- the cells of a slice's literal -/
def buildSL (P : Program) (t : TypeId) (len : Nat) (parts : List (Nat × Value)) : Option (TypeId × List Value) :=
  match P.underlying t with
  | some (.slice e) => match P.info? e with
    | some i => match i.zero with
      | some z =>
        if z.cells.size ≠ i.size || i.size = 0 || len * i.size > 16777216 then none
        else match fillL (fun k => some (k * i.size, i.size)) parts (repL z.cells.toList len) with
          | some l => some (e, l)
          | none => none
      | none => none
    | none => none
  | _ => none

/-- a part of a struct -/
def partV (P : Program) (t : TypeId) (cs : List Value) (off : Nat) (K : Value → Prop) : Prop :=
  match P.underlying t with
  | some (.struct _) | some (.array _ _) => match sizeV P t with
    | some n => force ((cs.drop off).take n) fun l => K (.agg l.toArray)
    | none => False
  | some _ => match cs[off]? with
    | some v => K v
    | none => False
  | none => False

/-- a slice's head -/
def slA (a : Option Addr) (m l size : Nat) : Option Addr := if m = l then a else a.map (·.add (l * size))

/-- the bounds of a slice expression -/
def opI (fr : Fr) (x : Option Operand) (k : Option Int → Prop) : Prop :=
  match x with
  | none => k none
  | some o => match ev fr o with
    | some (.int _ i) => k (some i)
    | _ => False

def slcV (a : Option Addr) (n c size : Nat) (lo hi mx : Option Int) (K : Value → Prop) : Prop :=
  match mx, hi, lo with
  | none, none, none => K (.slice a n c)
  | none, none, some l => (0 ≤ l ∧ l ≤ n) ∧ K (.slice (slA a c l.toNat size) (n - l.toNat) (c - l.toNat))
  | none, some h, none => (0 ≤ h ∧ h ≤ c) ∧ K (.slice a h.toNat c)
  | none, some h, some l => (0 ≤ l ∧ l ≤ h ∧ h ≤ c) ∧ K (.slice (slA a c l.toNat size) (h.toNat - l.toNat) (c - l.toNat))
  | some m, some h, none => (0 ≤ h ∧ h ≤ m ∧ m ≤ c) ∧ K (.slice a h.toNat m.toNat)
  | some m, some h, some l => (0 ≤ l ∧ l ≤ h ∧ h ≤ m ∧ m ≤ c) ∧ K (.slice (slA a m.toNat l.toNat size) (h.toNat - l.toNat) (m.toNat - l.toNat))
  | some _, none, _ => False

def slxV (P : Program) (t : TypeId) (x : Value) (lo hi mx : Option Int) (K : Value → Prop) : Prop :=
  match P.underlying t, x with
  | some .string, .string s =>
    match mx, hi, lo with
    | none, none, none => K (.string (s.extract 0 s.size))
    | none, none, some l => (0 ≤ l ∧ l ≤ s.size) ∧ K (.string (s.extract l.toNat s.size))
    | none, some h, none => (0 ≤ h ∧ h ≤ s.size) ∧ K (.string (s.extract 0 h.toNat))
    | none, some h, some l => (0 ≤ l ∧ l ≤ h ∧ h ≤ s.size) ∧ K (.string (s.extract l.toNat h.toNat))
    | some _, _, _ => False
  | some (.slice e), .slice a n c => match sizeV P e with
    | some size => slcV a n c size lo hi mx K
    | none => False
  | some (.array n e), .pointer p => match sizeV P e with
    | some size => onP p fun a => slcV (some a) n n size lo hi mx K
    | none => False
  | _, _ => False

def sliceV (P : Program) (fr : Fr) (t : TypeId) (x : Value) (lo hi mx : Option Operand) (K : Value → Prop) : Prop :=
  opI fr lo fun lo => opI fr hi fun hi => opI fr mx fun mx => slxV P t x lo hi mx K

/-- arithmetic: in range, or, where a region is marked, wrapped -/
def arith (wr : Bool) (k : IntKind) (z : Int) (K : Value → Prop) : Prop :=
  match wr with
  | true => K (.int k (k.wrap z))
  | false => inR k z ∧ K (.int k z)

def bits (op : BinOp) (k : IntKind) (x y : Int) : Int :=
  match op with
  | .and => k.wrap (BitVec.ofInt k.bits x &&& BitVec.ofInt k.bits y).toNat
  | .or => k.wrap (BitVec.ofInt k.bits x ||| BitVec.ofInt k.bits y).toNat
  | .xor => k.wrap (BitVec.ofInt k.bits x ^^^ BitVec.ofInt k.bits y).toNat
  | .andNot => k.wrap (BitVec.ofInt k.bits x &&& ~~~(BitVec.ofInt k.bits y)).toNat
  | _ => 0

def binV (wr : Bool) (P : Program) (op : BinOp) (t : TypeId) (x y : Value) (K : Value → Prop) : Prop :=
  match op, x, y with
  | .shl, .int k a, .int _ b => 0 ≤ b ∧ arith wr k (a * 2 ^ (min b.toNat k.bits)) K
  | .shr, .int k a, .int _ b => 0 ≤ b ∧ K (.int k (a.fdiv (2 ^ (min b.toNat k.bits))))
  | op, .int k a, .int k' b =>
    if k = k' then
      match op with
      | .add => arith wr k (a + b) K
      | .sub => arith wr k (a - b) K
      | .mul => arith wr k (a * b) K
      | .quo => b ≠ 0 ∧ arith wr k (a.tdiv b) K
      | .rem => b ≠ 0 ∧ K (.int k (a.tmod b))
      | .and => K (.int k (bits .and k a b))
      | .or => K (.int k (bits .or k a b))
      | .xor => K (.int k (bits .xor k a b))
      | .andNot => K (.int k (bits .andNot k a b))
      | .eql => K (.bool (decide (a = b)))
      | .neq => K (.bool (!decide (a = b)))
      | .lss => K (.bool (decide (a < b)))
      | .leq => K (.bool (decide (a ≤ b)))
      | .gtr => K (.bool (decide (b < a)))
      | .geq => K (.bool (decide (b ≤ a)))
      | _ => False
    else False
  | op, .string a, .string b =>
    match op with
    | .add => ((a.size + b.size : Nat) : Int) ≤ 9223372036854775807 ∧ K (.string (a ++ b))
    | .eql => K (.bool (decide (a = b)))
    | .neq => K (.bool (!decide (a = b)))
    | .lss => K (.bool (Op.bytesLess a.data.toList b.data.toList))
    | .leq => K (.bool (Op.bytesLess a.data.toList b.data.toList || decide (a = b)))
    | .gtr => K (.bool (!(Op.bytesLess a.data.toList b.data.toList || decide (a = b))))
    | .geq => K (.bool (!Op.bytesLess a.data.toList b.data.toList))
    | _ => False
  | .eql, .bool a, .bool b => match P.underlying t with
    | some .bool => K (.bool (a == b))
    | _ => False
  | .neq, .bool a, .bool b => match P.underlying t with
    | some .bool => K (.bool (!(a == b)))
    | _ => False
  | _, _, _ => False

def unV (wr : Bool) (op : UnOp) (x : Value) (K : Value → Prop) : Prop :=
  match op, x with
  | .not, .bool b => K (.bool (!b))
  | .neg, .int k n => arith wr k (0 - n) K
  | .xor, .int k n => K (.int k (bits .xor k (if k.signed then -1 else k.max) n))
  | _, _ => False

def lenV (P : Program) (ts : Array TypeId) (x : Value) (K : Value → Prop) : Prop :=
  match ts[0]? with
  | none => False
  | some t =>
    match P.underlying t, x with
    | some .string, .string s => K (.int .i64 s.size)
    | some (.slice _), .slice _ n _ => K (.int .i64 n)
    | some (.array n _), _ => K (.int .i64 n)
    | some (.pointer e), _ => match P.underlying e with
      | some (.array n _) => K (.int .i64 n)
      | _ => False
    | _, _ => False

def capV (P : Program) (ts : Array TypeId) (x : Value) (K : Value → Prop) : Prop :=
  match ts[0]? with
  | none => False
  | some t =>
    match P.underlying t, x with
    | some (.slice _), .slice _ _ c => K (.int .i64 c)
    | some (.array n _), _ => K (.int .i64 n)
    | _, _ => False

/-- the operations that ask no memory -/
def pureV (wr : Bool) (P : Program) (fr : Fr) (o : Oper) (K : Value → Prop) : Prop :=
  match o.op with
  | .move x => onV (ev fr x) K
  | .assign x => onV (ev fr x) K
  | .pick c a b => match ev fr c with
    | some (.bool t) => br t (onV (ev fr a) K) (onV (ev fr b) K)
    | _ => False
  | .build t parts => match partsOf fr parts.toList with
    | some ps => match buildL P t ps with
      | some _ => forceB (bigT P t) (bigL P t ps) fun l => K (.agg l.toArray)
      | none => False
    | none => False
  | .nilCheck x => match ev fr x with
    | some (.pointer p) => onP p fun a => K (.pointer (some a))
    | some (.func (.func f) fi ca) => K (.func (.func f) fi ca)
    | some (.iface t v) => K (.iface t v)
    | _ => False
  | .binOp op t x y _ => onV (ev fr x) fun a => onV (ev fr y) fun b => binV wr P op t a b K
  | .unOp op _ x => onV (ev fr x) fun a => unV wr op a K
  | .convert src dst x => match P.underlying src, P.underlying dst, ev fr x with
    | some (.int _), some (.int k), some (.int _ n) => K (.int k (k.wrap n))
    | some .string, some .string, some (.string s) => K (.string s)
    | _, _, _ => False
  | .makeInterface t x => match P.underlying t with
    | some (.interface _) => False
    | some _ => onV (ev fr x) fun v => K (.iface t v)
    | none => False
  | .makeFunc fn first captured => match evs fr first.toList, evs fr captured.toList with
    | some fi, some ca => K (.func fn fi.toArray ca.toArray)
    | _, _ => False
  | .slice t x lo hi mx => onV (ev fr x) fun v => sliceV P fr t v lo hi mx K
  | .sliceToArrayPointer t x => match P.underlying t, ev fr x with
    | some (.array n _), some (.slice a l _) => n ≤ l ∧ K (.pointer a)
    | _, _ => False
  | .fieldAddr s x f => match P.underlying s, ev fr x with
    | some (.struct fs), some (.pointer p) => match fs[f]? with
      | some fd => match sizeV P fd.type with
        | some (_ + 1) => onP p fun a => K (.pointer (some (a.add fd.offset)))
        | _ => False
      | none => False
    | _, _ => False
  | .field t x f => match P.underlying t, ev fr x with
    | some (.struct fs), some (.agg cs) => match fs[f]? with
      | some fd => partV P fd.type cs.toList fd.offset K
      | none => False
    | _, _ => False
  | .indexAddr t x ix => match P.underlying t, ev fr x, ev fr ix with
    | some (.slice e), some (.slice p n _), some (.int _ i) => match sizeV P e with
      | some sz => onP p fun a => (0 ≤ i ∧ i < n) ∧ K (.pointer (some (a.add (i.toNat * sz))))
      | none => False
    | some (.array n e), some (.pointer p), some (.int _ i) => match sizeV P e with
      | some sz => onP p fun a => (0 ≤ i ∧ i < n) ∧ K (.pointer (some (a.add (i.toNat * sz))))
      | none => False
    | _, _, _ => False
  | .index t x ix => match P.underlying t, ev fr x, ev fr ix with
    | some .string, some (.string s), some (.int _ i) => (0 ≤ i ∧ i < s.size) ∧ K (.int .u8 (sb s i))
    | _, _, _ => False
  | .extract x i => match ev fr x with
    | some (.tuple vs) => match vs[i]? with
      | some v => K v
      | none => False
    | _ => False
  | .call c => match c.callee, c.args.toList with
    | .builtin .len, [x] => onV (ev fr x) fun v => lenV P c.argTypes v K
    | .builtin .cap, [x] => onV (ev fr x) fun v => capV P c.argTypes v K
    | .builtin .min, [x, y] => match ev fr x, ev fr y with
      | some (.int k a), some (.int _ b) => K (.int k (min a b))
      | _, _ => False
    | .builtin .max, [x, y] => match ev fr x, ev fr y with
      | some (.int k a), some (.int _ b) => K (.int k (max a b))
      | _, _ => False
    | _, _ => False
  | _ => False

/-! ### Operations that read memory and leave it -/
def readV (P : Program) (fr : Fr) (o : Oper) (w : World) (v : Value) : Prop :=
  match o.op with
  | .load t x => match ev fr x with
    | some (.pointer p) => onP p fun a => Ld P t w a v
    | _ => False
  | .lookup t x k ok => onV (ev fr x) fun m => onV (ev fr k) fun k => Lk P t ok w m k v
  | .binOp op t x y _ => onV (ev fr x) fun a => onV (ev fr y) fun b => match v with
    | .bool r => Eqv P op t x y w a b r
    | _ => False
  | .convert src dst x => onV (ev fr x) fun a => B2S P src dst w a v
  | .typeAssert x xT t ok => onV (ev fr x) fun a => TAs P xT t ok w a v
  | .call c => match c.callee, c.args.toList with
    | .builtin .len, [x] => onV (ev fr x) fun m => LenM P c.argTypes o.type w m v
    | _, _ => False
  | _ => False

/-! ### Operations that turn memory -/
def callXF (P : Program) (fv : Value) (args : List Value) (t : TypeId) (w : World) (K : Option Value → World → Prop) : Prop :=
  CallX P fv args w fun e w' => exT P t fun v => e = .returned v ∧ K (some v) w'

/-- the type of a tuple's component, by the text behind -/
def extT : List Oper → Option Nat → Nat → Option TypeId
  | [], _, _ => none
  | o :: r, d, i => match o.op, d with
    | .extract (.tmp x) j, some d => match Nat.beq x d && Nat.beq j i with
      | true => some o.type
      | false => extT r (some d) i
    | _, d => extT r d i
def exO (P : Program) (t : Option TypeId) (C : Value → Prop) : Prop := match t with
  | some t => exT P t C
  | none => ∃ v, C v
/-- has a slice great elements? -/
def bigS (P : Program) (t : TypeId) : Bool := match P.underlying t with
  | some (.slice e) => bigT P e
  | _ => false
/-- a slice's literal, its cells not looked into -/
def BuildS (P : Program) (t : TypeId) (len : Nat) (ps : List (Nat × Value)) (e : TypeId) (l : List Value) : Prop := buildSL P t len ps = some (e, l)

def effV (P : Program) (ops : List Oper) (fr : Fr) (o : Oper) (w : World) (K : Option Value → World → Prop) : Prop :=
  match o.op with
  | .alloc t => match zeroOf P t with
    | some _ => forceB (bigT P t) (zl P t) fun l => ∀ b w1, New w (.cells l.toArray t) b w1 → K (some (.pointer (some ⟨b, 0, none⟩))) w1
    | none => False
  | .box t x => onV (ev fr x) fun v => forceB (bigT P t) v.cells.toList fun l => ∀ b w1, New w (.cells l.toArray t) b w1 → K (some (.pointer (some ⟨b, 0, none⟩))) w1
  | .buildSlice t len parts => match partsOf fr parts.toList with
    | some ps => match bigS P t with
      | true => ∃ (e : TypeId) (l : List Value), BuildS P t len ps e l ∧ ∀ b w1, New w (.cells l.toArray e) b w1 → K (some (.slice (some ⟨b, 0, none⟩) len len)) w1
      | false => match buildSL P t len ps with
        | some (e, cs) => force cs fun l => ∀ b w1, New w (.cells l.toArray e) b w1 → K (some (.slice (some ⟨b, 0, none⟩) len len)) w1
        | none => False
    | none => False
  | .store t x y => match ev fr x, ev fr y with
    | some (.pointer p), some v => onP p fun a => ∃ w1, St P t w a v w1 ∧ K none w1
    | _, _ => False
  | .convert src dst x => onV (ev fr x) fun v => ∃ (a : Option Addr) (l c : Nat) (w1 : World), S2B P src dst w v (.slice a l c) w1 ∧ K (some (.slice a l c)) w1
  | .makeSlice t l c => onV (ev fr l) fun l => onV (ev fr c) fun c => ∃ (a : Option Addr) (n m : Nat) (w1 : World), MkS P t w l c (.slice a n m) w1 ∧ K (some (.slice a n m)) w1
  | .makeMap t r => match r with
    | none => ∀ b w1, New w (.map #[] 0) b w1 → K (some (.map (some b))) w1
    | some x => onV (ev fr x) fun v => ∃ (m : Option Nat) (w1 : World), MkM P t w (some v) (.map m) w1 ∧ K (some (.map m)) w1
  | .mapUpdate t m k x => onV (ev fr m) fun m => onV (ev fr k) fun k => onV (ev fr x) fun v => ∃ w1, MUp P t w m k v w1 ∧ K none w1
  | .insert t m k x => onV (ev fr m) fun m => onV (ev fr k) fun k => onV (ev fr x) fun v => ∃ w1, MUp P t w m k v w1 ∧ K none w1
  | .mapEntry t m k => onV (ev fr m) fun m => onV (ev fr k) fun k => ∃ (v : Value) (i : Int) (w1 : World), MEn P t w m k (.tuple #[v, .int .i64 i]) w1 ∧ K (some (.tuple #[v, .int .i64 i])) w1
  | .entryStore t m s x => onV (ev fr m) fun m => onV (ev fr s) fun s => onV (ev fr x) fun v => ∃ w1, ESt P t w m s v w1 ∧ K none w1
  | .range t x => onV (ev fr x) fun v => ∃ (p : Option Addr) (w1 : World), Rng P t w v (.pointer p) w1 ∧ K (some (.pointer p)) w1
  | .next it isS => onV (ev fr it) fun i =>
      (∃ w1, Nxt P isS o.type w i (.tuple #[.bool false]) w1 ∧ K (some (.tuple #[.bool false])) w1) ∨
      (∃ (k v : Value) (w1 : World), Nxt P isS o.type w i (.tuple #[.bool true, k, v]) w1 ∧ K (some (.tuple #[.bool true, k, v])) w1)
  | .entry it => onV (ev fr it) fun i => exO P (extT ops o.dst 0) fun k => exO P (extT ops o.dst 1) fun v => ∃ w1, Etr P w i (.tuple #[k, v]) w1 ∧ K (some (.tuple #[k, v])) w1
  | .call c => match evs fr c.args.toList with
    | none => False
    | some args => match c.callee with
      | .builtin .append => match args with
        | [s, x] => ∃ (a : Option Addr) (n m : Nat) (w1 : World), App P c.argTypes o.type w s x (.slice a n m) w1 ∧ K (some (.slice a n m)) w1
        | _ => False
      | .builtin .copy => match args with
        | [d, s] => ∃ (n : Int) (w1 : World), Cpy P c.argTypes o.type w d s (.int .i64 n) w1 ∧ K (some (.int .i64 n)) w1
        | _ => False
      | .builtin .delete => match args with
        | [m, k] => ∃ w1, Del P c.argTypes o.type w m k w1 ∧ K (some (.tuple #[])) w1
        | _ => False
      | .builtin .clear => match args with
        | [m] => ∃ w1, Clr P c.argTypes o.type w m w1 ∧ K (some (.tuple #[])) w1
        | _ => False
      | .builtin _ => False
      | .value f => onV (ev fr f) fun fv => callXF P fv args o.type w K
      | .invoke _ _ => False
  | _ => False

/-- 0: asks no memory; 1: reads it; 2: turns it -/
def cls (P : Program) (op : Op) : Nat :=
  match op with
  | .move _ | .assign _ | .pick .. | .build .. | .nilCheck _ | .unOp .. | .makeInterface .. | .makeFunc .. | .slice .. | .sliceToArrayPointer .. | .fieldAddr .. | .field .. | .indexAddr .. | .index .. | .extract .. => 0
  | .binOp op t _ _ _ => match op with
    | .eql | .neq => match P.underlying t with
      | some (.int _) | some .string | some .bool => 0
      | _ => 1
    | _ => 0
  | .convert src dst _ => match P.underlying src, P.underlying dst with
    | some (.slice _), some .string => 1
    | some .string, some (.slice _) => 2
    | some (.slice _), some (.slice _) => 2
    | _, _ => 0
  | .load .. | .lookup .. | .typeAssert .. => 1
  | .call c => match c.callee with
    | .builtin .len => match c.argTypes[0]? with
      | some t => match P.underlying t with
        | some (.map _ _) => 1
        | _ => 0
      | none => 0
    | .builtin .cap | .builtin .min | .builtin .max => 0
    | _ => 2
  | _ => 2

/-! ### A region -/
/-- A read that was made already and must give the same again -/
abbrev Past := List (Nat × (World → Prop))

def again (bef : Nat → Nat → Bool) (j : Nat) : Past → World → Prop → Prop
  | [], _, X => X
  | (i, f) :: p, w, X => match bef i j with
    | true => again bef j p w X
    | false => f w ∧ again bef j p w X

/-- split a Bool that is a guard -/
def spl (sp : Bool) (v : Value) (K : Value → Prop) : Prop :=
  match sp, v with
  | true, .bool b => br b (K (.bool true)) (K (.bool false))
  | _, _ => K v

/-- the slot of an operation's result -/
def slotOf (ops : List Oper) (j : Nat) : Option Nat := match ops[j]? with
  | some o => o.dst
  | none => none

/-- is an operation's result a guard of another one? -/
def isGuard (ops : List Oper) (i : Nat) : Bool := ops.any fun o => match o.guard with
  | some (j, _) => j == i
  | none => false

/-- one operation: its result and the world behind it -/
def execV (wr : Bool) (P : Program) (bef : Nat → Nat → Bool) (ops : List Oper) (i : Nat) (o : Oper) (fr : Fr) (w : World) (past : Past) (K : Option Value → World → Past → Prop) : Prop :=
  match cls P o.op with
  | 0 => pureV wr P fr o fun v => spl (isGuard ops i) v fun v => K (some v) w past
  | 1 => exT P o.type fun v => readV P fr o w v ∧ spl (isGuard ops i) v fun v' => K (some v') w ((i, fun w' => readV P fr o w' v) :: past)
  | _ => effV P ops fr o w fun rv w' => again bef i past w' (match rv with
    | some v => spl (isGuard ops i) v fun v => K (some v) w' past
    | none => K none w' past)

/-- a result goes into its slot, which must be there -/
def fput (nt : Nat) (fr : Fr) (d : Option Nat) (v : Option Value) (k : Fr → Prop) : Prop :=
  match d with
  | some d => match Nat.blt d nt with
    | true => k ((d, v) :: fr)
    | false => False
  | none => k fr

/-- one operation, its guard looked at: what it gives -/
def stepD (wr : Bool) (P : Program) (bef : Nat → Nat → Bool) (ops : List Oper) (i : Nat) (o : Oper) (fr : Fr) (w : World) (past : Past) (K : Option Value → World → Past → Prop) : Prop :=
  match o.guard with
  | none => execV wr P bef ops i o fr w past K
  | some (j, want) => match slotOf ops j with
    | none => False
    | some s => match fget fr s with
      | some (.bool b) =>
        match b, want with
        | true, true | false, false => execV wr P bef ops i o fr w past K
        | _, _ => K (some (.tuple #[])) w past
      | some (.tuple _) => K (some (.tuple #[])) w past
      | _ => False

def runV (wr : Bool) (P : Program) (nt : Nat) (bef : Nat → Nat → Bool) (ops : List Oper) (K : Fr → World → Prop) : List Nat → Fr → World → Past → Prop
  | [], fr, w, _ => K fr w
  | i :: r, fr, w, past =>
    match ops[i]? with
    | none => False
    | some o => stepD wr P bef ops i o fr w past fun v w' past' => fput nt fr o.dst v fun fr' => runV wr P nt bef ops K r fr' w' past'

/-! ### The order of a region that draws it -/
def edges (o : Oper) : List Nat := (o.after.toList.filter fun e => Region.binds .any e).map (·.on)

/-- the operations that one waits for: by the text's edges, and by an order that is laid beside them -/
def edgesX (ex : List (Nat × Nat)) (j : Nat) (o : Oper) : List Nat := edges o ++ (ex.filter fun p => Nat.beq p.2 j).map (·.1)

def getN (l : List Nat) (e : Nat) : Nat := (l[e]?).getD 0

/-- the operations ahead of each one, through others too, as the bits of a number; 'prev': what is known already -/
def passM (ex : List (Nat × Nat)) (prev : List Nat) (ops : List Oper) : List Nat :=
  ops.foldl (fun acc o => acc ++ [(edgesX ex acc.length o).foldl (fun s e => Nat.lor s (Nat.lor (Nat.pow 2 e) (Nat.lor (getN acc e) (getN prev e)))) 0]) []

def closure (ex : List (Nat × Nat)) (ops : List Oper) : List Nat :=
  match ex with
  | [] => passM ex [] ops
  | _ => passM ex (passM ex (passM ex [] ops) ops) ops

def before (cl : List Nat) (i j : Nat) : Bool := Nat.testBit (getN cl j) i

/-- are all of them among those that are done? (as bits) -/
def within (m done : Nat) : Bool := Nat.beq (Nat.lor m done) done

/-- which are taken next: memory's turners as late as can be -/
def pickNext (P : Program) (ops : List Oper) (cl : List Nat) (done : Nat) : List Nat → Option Nat → Option Nat
  | [], late => late
  | i :: r, late =>
    match Nat.testBit done i with
    | true => pickNext P ops cl done r late
    | false =>
      match within (getN cl i) done with
      | false => pickNext P ops cl done r late
      | true => match ops[i]? with
        | some o => match cls P o.op with
          | 0 => some i
          | 1 => some i
          | _ => pickNext P ops cl done r (match late with
            | none => some i
            | some l => some l)
        | none => none

def orderOf (P : Program) (ops : List Oper) (cl : List Nat) (all : List Nat) : Nat → Nat → List Nat
  | 0, _ => []
  | n + 1, done => match pickNext P ops cl done all none with
    | some i => i :: orderOf P ops cl all n (Nat.lor done (Nat.pow 2 i))
    | none => []

/-- the operations that turn memory -/
def turners (P : Program) : List Oper → Nat → List Nat
  | [], _ => []
  | o :: r, i => match cls P o.op with
    | 0 => turners P r (i + 1)
    | 1 => turners P r (i + 1)
    | _ => i :: turners P r (i + 1)

def remove (x : Nat) : List Nat → List Nat
  | [] => []
  | y :: r => match Nat.beq x y with
    | true => r
    | false => y :: remove x r

/-- all the orders of some, none ahead of one that it waits for -/
def extsOf (cl : List Nat) : Nat → List Nat → List (List Nat)
  | 0, _ => [[]]
  | n + 1, l => (l.filter fun x => l.all fun y => !before cl y x).flatMap fun x => (extsOf cl n (remove x l)).map (x :: ·)

/-- an order as edges -/
def chainOf : List Nat → List (Nat × Nat)
  | x :: y :: r => (x, y) :: chainOf (y :: r)
  | _ => []

/-- no two of a list alike -/
def nodupB : List Nat → Bool
  | [] => true
  | x :: r => !r.contains x && nodupB r

/-- where a number stands in a list -/
def posIn (x : Nat) : List Nat → Nat
  | [] => 0
  | y :: r => match Nat.beq x y with
    | true => 0
    | false => posIn x r + 1

def edgesIn (m : Region.Mode) (o : Oper) : List Nat := (o.after.toList.filter fun e => Region.binds m e).map (·.on)

/-- every edge of a mode goes forward in an order -/
def forward (m : Region.Mode) (ops : List Oper) (σ : List Nat) : Bool :=
  (List.range ops.length).all fun i => match ops[i]? with
    | some o => (edgesIn m o).all fun j => decide (j < ops.length) && decide (posIn j σ < posIn i σ)
    | none => false

/-- the slots that an operation reads -/
def opTs (o : Op) : List Nat := o.operands.toList.filterMap fun x => match x with
  | .tmp t => some t
  | _ => none

/-- two operations that are in no order touch different slots -/
def apartB (ops : List Oper) (i j : Nat) : Bool :=
  match ops[i]?, ops[j]? with
  | some a, some b =>
    match a.dst, b.dst with
    | some x, some y => !(x == y) && !(opTs a.op).contains y && !(opTs b.op).contains x &&
        (match a.guard with
          | some (k, _) => match slotOf ops k with
            | some s => !(s == y)
            | none => true
          | none => true) &&
        (match b.guard with
          | some (k, _) => match slotOf ops k with
            | some s => !(s == x)
            | none => true
          | none => true)
    | some x, none => !(opTs b.op).contains x &&
        (match b.guard with
          | some (k, _) => match slotOf ops k with
            | some s => !(s == x)
            | none => true
          | none => true)
    | none, some y => !(opTs a.op).contains y &&
        (match a.guard with
          | some (k, _) => match slotOf ops k with
            | some s => !(s == y)
            | none => true
          | none => true)
    | none, none => true
  | _, _ => false

/-- the pairs of a list, each with those behind it -/
def pairsOk (f : Nat → Nat → Bool) : List Nat → Bool
  | [] => true
  | i :: r => r.all (f i) && pairsOk f r

/-- may these two, in this order, be turned: they are in an order of their own, or: apart; not both turn memory; no reader behind a turner -/
def turnOk (P : Program) (ops : List Oper) (cl : List Nat) (i j : Nat) : Bool :=
  before cl i j ||
  (!before cl j i && apartB ops i j &&
    match ops[i]?, ops[j]? with
    | some a, some b => match cls P a.op, cls P b.op with
      | 0, _ => true
      | _, 0 => true
      | 1, _ => true
      | _, _ => false
    | _, _ => false)

def drawOk (P : Program) (ops : Array Oper) (cl : List Nat) (σ : List Nat) : Bool :=
  decide (σ.length = ops.toList.length) && nodupB σ && σ.all (fun i => decide (i < ops.toList.length)) && pairsOk (turnOk P ops.toList cl) σ

/-- every order that can be drawn lists all -/
def drawBase (ops : Array Oper) : Bool :=
  forward .any ops.toList (List.range ops.toList.length) &&
  (!Region.departs ops || (forward .text ops.toList (List.range ops.toList.length) && forward .gc ops.toList (Region.linearise .gc ops 0)))

/-! ### Code -/
/-- what a slot that lives through a loop may hold: an integer of a kind; a bool, a string, a pointer, a slice, a map, anything -/
abbrev Kd := IntKind ⊕ Nat

def KTy : Kd → Type
  | .inl _ => Int
  | .inr 0 => Bool
  | .inr 1 => ByteArray
  | .inr 2 => Option Addr
  | .inr 3 => Option Addr × Nat × Nat
  | .inr 4 => Option Nat
  | .inr (_ + 5) => Value

def toV : (k : Kd) → KTy k → Value
  | .inl k, n => .int k n
  | .inr 0, b => .bool b
  | .inr 1, s => .string s
  | .inr 2, p => .pointer p
  | .inr 3, x => .slice x.1 x.2.1 x.2.2
  | .inr 4, m => .map m
  | .inr (_ + 5), v => v

def fromV : (k : Kd) → Value → Option (KTy k)
  | .inl k, .int k' n => match decide (k = k') with
    | true => some n
    | false => none
  | .inr 0, .bool b => some b
  | .inr 1, .string s => some s
  | .inr 2, .pointer p => some p
  | .inr 3, .slice a l c => some (a, l, c)
  | .inr 4, .map m => some m
  | .inr (_ + 5), v => some v
  | _, _ => none

def StTy : List (Nat × Kd) → Type
  | [] => Unit
  | [x] => KTy x.2
  | x :: y :: r => KTy x.2 × StTy (y :: r)

def setSt : (l : List (Nat × Kd)) → StTy l → Fr → Fr
  | [], _, fr => fr
  | [x], s, fr => (x.1, some (toV x.2 s)) :: fr
  | x :: y :: r, s, fr => (x.1, some (toV x.2 s.1)) :: setSt (y :: r) s.2 fr

def getSt : (l : List (Nat × Kd)) → Fr → (StTy l → Prop) → Prop
  | [], _, K => K ()
  | [x], fr, K => match fget fr x.1 with
    | some v => match fromV x.2 v with
      | some s => K s
      | none => False
    | none => False
  | x :: y :: r, fr, K => match fget fr x.1 with
    | some v => match fromV x.2 v with
      | some s => getSt (y :: r) fr fun s' => K (s, s')
      | none => False
    | none => False

def havoc : List Nat → Fr → Fr
  | [], fr => fr
  | t :: r, fr => (t, none) :: havoc r fr

def opsMods : List Oper → List Nat
  | [] => []
  | o :: r => match o.dst with
    | some d => d :: opsMods r
    | none => opsMods r

/-- the slots that code may write -/
def mods : Code → List Nat
  | .region _ ops _ => opsMods ops.toList
  | .seq a b => mods a ++ mods b
  | .cond _ a b => mods a ++ mods b
  | .block _ c => mods c
  | .loop c => mods c
  | .scope c => mods c
  | _ => []

/-- the first region in code: its name -/
def firstR : Code → Option Nat
  | .region id _ _ => some id
  | .seq a b => match firstR a with
    | some i => some i
    | none => firstR b
  | .cond _ a b => match firstR a with
    | some i => some i
    | none => firstR b
  | .block _ c => firstR c
  | .loop c => firstR c
  | .scope c => firstR c
  | _ => none

/-- the slots of a state are among those that are written -/
def stOk : List (Nat × Kd) → List Nat → Bool
  | [], _ => true
  | x :: r, ms => ms.contains x.1 && stOk r ms

/-- what is said beside a function's code: in which regions arithmetic may wrap; of each loop, by its body's first region, the slots that live through it; where ways meet, by the first region behind, the slots that live on -/
structure An where
  wraps : List Nat := []
  loops : List (Nat × List (Nat × Kd)) := []
  joins : List (Nat × List (Nat × Kd)) := []
  ranges : List (Nat × List (Nat × Kd)) := []

def An.find (l : List (Nat × List (Nat × Kd))) (i : Option Nat) : Option (List (Nat × Kd)) :=
  match i with
  | none => none
  | some i => match l with
    | [] => none
    | (j, s) :: r => match Nat.beq i j with
      | true => some s
      | false => An.find r (some i)

/-- no range over a function -/
def noRF : Code → Bool
  | .seq a b => noRF a && noRF b
  | .cond _ a b => noRF a && noRF b
  | .block _ c => noRF c
  | .loop c => noRF c
  | .scope c => noRF c
  | .rangeFunc .. => false
  | _ => true
/-- the jumps that leave code -/
def exitsOf : Code → List Nat
  | .seq a b => exitsOf a ++ exitsOf b
  | .cond _ a b => exitsOf a ++ exitsOf b
  | .block id c => (exitsOf c).filter fun x => !Nat.beq x id
  | .loop c => exitsOf c
  | .scope c => exitsOf c
  | .exit id => [id]
  | _ => []
def retsIn : Code → Bool
  | .seq a b => retsIn a || retsIn b
  | .cond _ a b => retsIn a || retsIn b
  | .block _ c => retsIn c
  | .loop c => retsIn c
  | .scope c => retsIn c
  | .ret => true
  | _ => false
def isIn (i : Nat) : List Nat → Bool
  | [] => false
  | x :: r => Nat.beq i x || isIn i r
/-- a state as arguments -/
def argsOf : (l : List (Nat × Kd)) → StTy l → List Value
  | [], _ => []
  | [x], s => [toV x.2 s]
  | x :: y :: r, s => toV x.2 s.1 :: argsOf (y :: r) s.2
/-- its slots are these, no two alike, and there -/
def psOk (nt : Nat) (st : List (Nat × Kd)) (ps : List Nat) : Bool := (st.map (·.1) == ps) && nodupB ps && ps.all (Nat.blt · nt)

/-- at each of the orders -/
def drawAll (f : List Nat → Prop) : List (List Nat) → Prop
  | [] => True
  | [x] => f x
  | x :: y :: r => f x ∧ drawAll f (y :: r)

def V (P : Program) (an : An) (nt : Nat) : Code → Fr → List Nat → World → (Exit → Fr → List Nat → World → Prop) → Prop
  | .skip, fr, ms, w, Q => Q .normal fr ms w
  | .region id ops draw, fr, ms, w, Q =>
    match draw with
    | false => runV (an.wraps.contains id) P nt (fun _ _ => true) ops.toList (fun fr w => Q .normal fr ms w) (List.range ops.toList.length) fr w []
    | true => match drawBase ops with
      | true => drawAll (fun eo => match closure (chainOf eo) ops.toList with
        | cl => match orderOf P ops.toList cl (List.range ops.toList.length) ops.toList.length 0 with
          | σ => match drawOk P ops cl σ with
            | true => runV (an.wraps.contains id) P nt (before cl) ops.toList (fun fr w => Q .normal fr ms w) σ fr w.drew []
            | false => False) (match turners P ops.toList 0 with
          | ts => extsOf (closure [] ops.toList) ts.length ts)
      | false => False
  | .seq a b, fr, ms, w, Q =>
    match An.find an.joins (firstR b) with
    | some st => match stOk st (mods a) && noRF a with
      | true => JoinP (fun (s : StTy st) w' => V P an nt b (setSt st s (havoc (mods a) fr)) ms w' Q) (fun J => V P an nt a fr ms w (fun e fr' ms' w' => match e with
        | .normal => getSt st fr' fun s => J s w'
        | e => Q e fr' ms' w'))
      | false => False
    | none => V P an nt a fr ms w (fun e fr' ms' w' => match e with
        | .normal => V P an nt b fr' ms' w' Q
        | e => Q e fr' ms' w')
  | .cond c x y, fr, ms, w, Q =>
    match ev fr c with
    | some (.bool b) => br b (V P an nt x fr ms w Q) (V P an nt y fr ms w Q)
    | _ => False
  | .block id c, fr, ms, w, Q => V P an nt c fr ms w (fun e fr' ms' w' => match e with
      | .exit id' => match Nat.beq id' id with
        | true => Q .normal fr' ms' w'
        | false => Q (.exit id') fr' ms' w'
      | e => Q e fr' ms' w')
  | .loop c, fr, ms, w, Q =>
    match An.find an.loops (firstR c) with
    | some st => match stOk st (mods c) && noRF c with
      | true => getSt st fr fun s0 => LoopP (fun (s : StTy st) w' next => V P an nt c (setSt st s (havoc (mods c) fr)) ms w' (fun e fr' ms' w'' => match e with
        | .normal => getSt st fr' fun s' => next s' w''
        | e => Q e fr' ms' w'')) s0 w
      | false => False
    | none => False
  | .exit id, fr, ms, w, Q => Q (.exit id) fr ms w
  | .scope c, fr, ms, w, Q => V P an nt c fr ms w (fun e fr' ms' w' => match e with
      | .goto _ => False
      | e => Q e fr' ms' w')
  | .label _, fr, ms, w, Q => Q .normal fr ms w
  | .ret, fr, ms, w, Q => Q .ret fr ms w
  | .rangeFunc g ps assign body, fr, ms, w, Q =>
    match An.find an.ranges (firstR body) with
    | some st => match psOk nt st ps.toList && (noRF assign && noRF body) with
      | true => match ev fr g with
        | some v => ∃ (gf : FuncId) (fi ca : Array Value), v = .func (.func gf) fi ca ∧ HasBody P gf ∧ RangeP P gf fi.toList ca.toList (argsOf st) (fun (s : StTy st) w' begin kn kr kx => V P an nt assign (setSt st s fr) [] w' (fun e fr1 _ w1 => match e with
                | .normal => begin w1 fun w2 => V P an nt body fr1 [] w2 (fun e _ _ w3 => match e with
                  | .normal => kn w3
                  | .ret => kr w3
                  | .exit id => kx id w3
                  | _ => False)
                | _ => False)) w (fun D w' => Q .normal fr (D :: ms) w') (fun D w' => match retsIn body with
                | true => Q .ret fr (D :: ms) w'
                | false => False) (fun id D w' => match isIn id (exitsOf body) with
                | true => Q (.exit id) fr (D :: ms) w'
                | false => False)
        | _ => False
      | false => False
    | none => False
  | _, _, _, _, _ => False

/-! ### A function -/
def resV (P : Program) (fr : Fr) (w : World) : List ResultVar → (List Value → Prop) → Prop
  | [], K => K []
  | .tmp t :: r, K => onV (fget fr t) fun v => resV P fr w r fun l => K (v :: l)
  | .cell a t :: r, K => match fget fr a with
    | some (.pointer p) => onP p fun a => exV P t fun v => Ld P t w a v ∧ resV P fr w r fun l => K (v :: l)
    | _ => False

def retV (P : Program) (fn : Func) (fr : Fr) (w : World) (R : Ending → World → Prop) : Prop :=
  resV P fr w fn.results.toList fun l => match l with
    | [v] => R (.returned v) w
    | l => R (.returned (.tuple l.toArray)) w

def argFr : Nat → List Value → Fr
  | _, [] => []
  | i, v :: r => (i, some v) :: argFr (i + 1) r

def shutV (P : Program) (fn : Func) (fr : Fr) : List Nat → World → (Ending → World → Prop) → Prop
  | [], w, R => retV P fn fr w R
  | D :: ms, w, R => ∃ w1, ShutD w D w1 ∧ shutV P fn fr ms w1 R

def bodyV (P : Program) (an : An) (fn : Func) (args : List Value) (w : World) (R : Ending → World → Prop) : Prop :=
  match fn.body with
  | none => False
  | some c => V P an fn.ntmps c (argFr 0 args) [] w (fun e fr' ms w' => match e with
    | .normal => shutV P fn fr' ms w' R
    | .ret => shutV P fn fr' ms w' R
    | _ => False)
end
end Go.Vc
