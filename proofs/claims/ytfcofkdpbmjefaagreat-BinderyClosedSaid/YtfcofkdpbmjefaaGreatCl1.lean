/- Part 1: A calculus of conditions over the model's code: 'V c fr w Q' reckons, for a piece of code, a frame of which some slots are known, and a world, a plain statement from which the code's 'wp' follows. From the statement that the calculus reckons of a function's code follows the function's contract: for every program, function, argument and world. Each operation: from the calculus' condition to the operation's run. A region: from the calculus' condition to the run of its operations, in the order of the text and in whatever order is drawn. A region whose order is drawn: what the calculus asks in one -/
import Derived.WalkKit
import Derived.RangeFuncSeq
import Derived.KernelRfl
import Derived.RangeFuncLeaves
import Derived.Deep.AppendSrc
import Derived.Laws.MakeOwn
import Derived.Laws.BytesArg
import Derived.Laws.BytesString
import Derived.Laws.IdiomStrings
import Derived.Maps.RangeRun
import Derived.Laws.StructEq
import Derived.ChangeKeysEq
import Derived.WideKeyRuns
set_option linter.unusedVariables false
set_option linter.unusedSimpArgs false
set_option maxRecDepth 100000
namespace Go.Vc
open Go
noncomputable section
abbrev Fr := List (Nat × Option Value)
def fget (fr : Fr) (t : Nat) : Option Value :=
  List.rec (motive := fun _ => Option Value) none (fun x _ ih => cond (Nat.beq t x.1) x.2 ih) fr
def ev (fr : Fr) : Operand → Option Value
  | .tmp t => fget fr t
  | .const v => some v
  | .global g => some (.pointer (some ⟨g, 0, none⟩))
  | .func f => some (.func (.func f) #[] #[])
def evs (fr : Fr) : List Operand → Option (List Value)
  | [] => some []
  | x :: r => match ev fr x with
    | some v => match evs fr r with
      | some l => some (v :: l)
      | none => none
    | none => none
def onO {α : Type} (x : Option α) (k : α → Prop) : Prop :=
  match x with
  | some v => k v
  | none => False
abbrev onV (x : Option Value) (k : Value → Prop) : Prop := onO x k
def W (rd : Option Nat) : Fence := { Fence.wide with round := rd }
def br (b : Bool) (x y : Prop) : Prop :=
  match b with
  | true => x
  | false => y
def onP (p : Option Addr) (k : Addr → Prop) : Prop :=
  match p with
  | some a => k a
  | none => False
def inR (k : IntKind) (z : Int) : Prop := k.min ≤ z ∧ z ≤ k.max
def sb (s : ByteArray) (i : Int) : Int := ((s.data.toList[i.toNat]?).getD 0).toNat
structure New (w : World) (o : Obj) (b : Nat) (w1 : World) : Prop where
  num : b = w.heap.size
  eq : w1 = w.alloc o
def Ld (P : Program) (t : TypeId) (w : World) (a : Addr) (v : Value) : Prop := (loadVar t a).run P w = .ok v w
def St (P : Program) (t : TypeId) (w : World) (a : Addr) (v : Value) (w1 : World) : Prop := (storeVar t a v).run P w = .ok () w1
def Eqv (P : Program) (op : BinOp) (t : TypeId) (x y : Operand) (w : World) (a b : Value) (r : Bool) : Prop :=
  (do eqGuard op t x y a b; binOp op t a b : Sem Value).run P w = .ok (.bool r) w
def Lk (P : Program) (t : TypeId) (ok : Bool) (w : World) (m k v : Value) : Prop := (Instr.lookup t m k ok).run P w = .ok v w
def LenM (P : Program) (ts : Array TypeId) (t : TypeId) (w : World) (m v : Value) : Prop := (Builtin.len_ ts t #[m]).run P w = .ok v w
def B2S (P : Program) (src dst : TypeId) (w : World) (x v : Value) : Prop := (convert src dst x).run P w = .ok v w
def S2B (P : Program) (src dst : TypeId) (w : World) (x v : Value) (w1 : World) : Prop := (convert src dst x).run P w = .ok v w1
def App (P : Program) (ts : Array TypeId) (t : TypeId) (w : World) (s x v : Value) (w1 : World) : Prop := (Builtin.append_ ts t #[s, x]).run P w = .ok v w1
def Cpy (P : Program) (ts : Array TypeId) (t : TypeId) (w : World) (d s v : Value) (w1 : World) : Prop := (Builtin.copy_ ts t #[d, s]).run P w = .ok v w1
def Del (P : Program) (ts : Array TypeId) (t : TypeId) (w : World) (m k : Value) (w1 : World) : Prop := (Builtin.delete_ ts t #[m, k]).run P w = .ok (.tuple #[]) w1
def Clr (P : Program) (ts : Array TypeId) (t : TypeId) (w : World) (m : Value) (w1 : World) : Prop := (Builtin.clear_ ts t #[m]).run P w = .ok (.tuple #[]) w1
def MUp (P : Program) (t : TypeId) (w : World) (m k v : Value) (w1 : World) : Prop := (Instr.mapUpdate t m k v).run P w = .ok () w1
def MEn (P : Program) (t : TypeId) (w : World) (m k v : Value) (w1 : World) : Prop := (Instr.mapEntry t m k).run P w = .ok v w1
def ESt (P : Program) (t : TypeId) (w : World) (m s v : Value) (w1 : World) : Prop := (Instr.entryStore t m s v).run P w = .ok () w1
def MkS (P : Program) (t : TypeId) (w : World) (l c v : Value) (w1 : World) : Prop := (Instr.makeSlice t l c).run P w = .ok v w1
def Rng (P : Program) (t : TypeId) (w : World) (x v : Value) (w1 : World) : Prop := (Instr.range t x).run P w = .ok v w1
def Nxt (P : Program) (isS : Bool) (t : TypeId) (w : World) (it v : Value) (w1 : World) : Prop := (Instr.next it isS t).run P w = .ok v w1
def Etr (P : Program) (w : World) (it v : Value) (w1 : World) : Prop := (Instr.entry it).run P w = .ok v w1
def TAs (P : Program) (xT t : TypeId) (ok : Bool) (w : World) (x v : Value) : Prop := (Instr.typeAssert x xT t ok).run P w = .ok v w
def Prt (P : Program) (t : TypeId) (cs : List Value) (off : Nat) (v : Value) : Prop := ∀ w : World, (part t cs.toArray off).run P w = .ok v w
structure CallV (P : Program) (f : FuncId) (args : List Value) (w : World) (R : Ending → World → Prop) : Prop where
  run : Calls P f args.toArray w R
structure ExtV (P : Program) (f : FuncId) (args : List Value) (w : World) (R : Ending → World → Prop) : Prop where
  run : ∃ (v : Value) (w1 : World), (callFunc f args.toArray).run P w = .ok (.value v) w1 ∧ R (.returned v) w1
structure YieldV (P : Program) (l : Nat) (args : List Value) (w : World) (R : Ending → World → Prop) : Prop where
  run : ∀ (rd : Option Nat) (n : Nat), YieldAt (W rd) n P l args.toArray w R
def CallX (P : Program) (fv : Value) (args : List Value) (w : World) (R : Ending → World → Prop) : Prop :=
  match fv with
  | .func (.func g) fi ca => match P.funcs[g]? with
    | some fn => match fn.body with
      | some _ => CallV P g (fi.toList ++ args ++ ca.toList) w R
      | none => ExtV P g (fi.toList ++ args ++ ca.toList) w R
    | none => False
  | .func (.yield l) fi ca => match fi.toList, ca.toList with
    | [], [] => YieldV P l args w R
    | _, _ => False
  | _ => False
structure RangeP {St : Type} (P : Program) (gf : FuncId) (fi ca : List Value) (toA : St → List Value) (round : St → World → (World → (World → Prop) → Prop) → (World → Prop) → (World → Prop) → (Nat → World → Prop) → Prop) (w : World) (Qn Qr : Nat → World → Prop) (Qx : Nat → Nat → World → Prop) : Prop where
  mk' ::
  run : ∀ (D l : Nat) (w0 w1 : World) (rec : LoopState → Option Code → Obj), New w (.deferred (some [])) D w0 → New w0 (rec .ready none) l w1 →
    (∀ (s : St) (w' : World) (R : Ending → World → Prop),
      round s w' (fun w1 k => w1.heap[l]? = some (rec .ready none) ∧ k (w1.putObj l (rec .busy none)))
        (fun w2 => w2.heap[l]? = some (rec .busy none) ∧ R (.returned (.bool true)) (w2.putObj l (rec .ready none)))
        (fun w2 => w2.heap[l]? = some (rec .busy none) ∧ R (.returned (.bool false)) (w2.putObj l (rec .done (some .ret))))
        (fun id w2 => w2.heap[l]? = some (rec .busy none) ∧ R (.returned (.bool false)) (w2.putObj l (rec .done (some (.exit id))))) →
      w'.heap[l]? = some (rec .ready none) → CallX P (.func (.yield l) #[] #[]) (toA s) w' R) →
    CallV P gf (fi ++ [.func (.yield l) #[] #[]] ++ ca) w1 fun e w2 => ∃ v, e = .returned v ∧
      ((w2.heap[l]? = some (rec .ready none) ∧ Qn D (w2.putObj l (rec .exhausted none))) ∨
       (w2.heap[l]? = some (rec .done (some .ret)) ∧ Qr D (w2.putObj l (rec .exhausted (some .ret)))) ∨
       ∃ id, w2.heap[l]? = some (rec .done (some (.exit id))) ∧ Qx id D (w2.putObj l (rec .exhausted (some (.exit id)))))
def HasBody (P : Program) (gf : FuncId) : Prop := ∃ (fn : Func) (c : Code), P.funcs[gf]? = some fn ∧ fn.body = some c
def ShutD (w : World) (D : Nat) (w1 : World) : Prop := w.heap[D]? = some (.deferred (some [])) ∧ w1 = w.putObj D (.deferred none)
structure LoopP {St : Type} (body : St → World → (St → World → Prop) → Prop) (s : St) (w : World) : Prop where
  mk' ::
  run : ∃ I : Nat → St → World → Prop, (∃ n, I n s w) ∧ ∀ n s w, I n s w → body s w (fun s' w' => ∃ m, m < n ∧ I m s' w')
structure JoinP {St : Type} (R : St → World → Prop) (X : (St → World → Prop) → Prop) : Prop where
  mk' ::
  run : X R
def exLs (f : TypeId → (List Value → Prop) → Prop) : List TypeId → (List Value → Prop) → Prop
  | [], C => C []
  | t :: r, C => f t (fun l => exLs f r (fun l' => C (l ++ l')))
def exC (P : Program) : Nat → TypeId → (List Value → Prop) → Prop
  | 0, _, C => ∃ cs : List Value, C cs
  | n + 1, T, C =>
    match P.underlying T with
    | some .bool => ∃ b : Bool, C [.bool b]
    | some (.int k) => ∃ i : Int, C [.int k i]
    | some .string => ∃ s : ByteArray, C [.string s]
    | some (.pointer _) => ∃ p : Option Addr, C [.pointer p]
    | some (.slice _) => ∃ (a : Option Addr) (l c : Nat), C [.slice a l c]
    | some (.map _ _) => ∃ m : Option Nat, C [.map m]
    | some (.struct fs) => exLs (exC P n) (fs.toList.map (·.type)) C
    | some (.array _ _) => ∃ cs : List Value, C cs
    | _ => ∃ v : Value, C [v]
def on1 (C : Value → Prop) : List Value → Prop
  | [v] => C v
  | _ => False
def exV (P : Program) (T : TypeId) (C : Value → Prop) : Prop :=
  match P.underlying T with
  | some (.struct _) | some (.array _ _) => exC P 8 T fun cs => C (.agg cs.toArray)
  | _ => exC P 8 T (on1 C)
def exVs (P : Program) : List TypeId → (List Value → Prop) → Prop
  | [], C => C []
  | t :: r, C => exV P t (fun v => exVs P r (fun l => C (v :: l)))
def exT (P : Program) (T : TypeId) (C : Value → Prop) : Prop :=
  match P.underlying T with
  | some (.tuple ts) => exVs P ts.toList fun vs => C (.tuple vs.toArray)
  | _ => exV P T C
def exTw (wr : Option Bool) (P : Program) (T : TypeId) (C : Value → Prop) : Prop := match wr with
  | some _ => exT P T C
  | none => ∃ v, C v
def exVw (wr : Option Bool) (P : Program) (T : TypeId) (C : Value → Prop) : Prop := match wr with
  | some _ => exV P T C
  | none => ∃ v, C v
def force : List Value → (List Value → Prop) → Prop
  | [], k => k []
  | x :: r, k => force r (fun r' => k (x :: r'))
def forceB (big : Bool) (l : List Value) (k : List Value → Prop) : Prop := match big with
  | true => k l
  | false => force l k
def over : List Value → Nat → List Value → List Value
  | [], _, cs => cs
  | x :: r, 0, _ :: cs => x :: over r 0 cs
  | _ :: _, _, [] => []
  | l, n + 1, c :: cs => c :: over l n cs
def fillL (place : Nat → Option (Nat × Nat)) : List (Nat × Value) → List Value → Option (List Value)
  | [], cs => some cs
  | (i, v) :: r, cs =>
    match place i with
    | none => none
    | some (off, size) =>
      if v.cells.size ≠ size || off + v.cells.size > cs.length then none
      else fillL place r (over v.cells.toList off cs)
def partsOf (fr : Fr) : List (Nat × Operand) → Option (List (Nat × Value))
  | [] => some []
  | (i, x) :: r => match ev fr x with
    | some v => match partsOf fr r with
      | some l => some ((i, v) :: l)
      | none => none
    | none => none
def sizesOf (P : Program) : List Field → Option (List (Nat × Nat))
  | [] => some []
  | f :: r => match P.info? f.type with
    | some i => match sizesOf P r with
      | some l => some ((f.offset, i.size) :: l)
      | none => none
    | none => none
def zeroOf (P : Program) (t : TypeId) : Option Value := match P.info? t with
  | some i => i.zero
  | none => none
def sizeV (P : Program) (t : TypeId) : Option Nat := match P.info? t with
  | some i => some i.size
  | none => none
def bigT (P : Program) (t : TypeId) : Bool := match sizeV P t with
  | some n => Nat.blt 64 n
  | none => false
def zl (P : Program) (t : TypeId) : List Value := match zeroOf P t with
  | some z => z.cells.toList
  | none => []
def buildL (P : Program) (t : TypeId) (parts : List (Nat × Value)) : Option (List Value) :=
  match zeroOf P t with
  | none => none
  | some z =>
    match P.underlying t with
    | some (.struct fs) => match sizesOf P fs.toList with
      | some pl => fillL (fun i => pl[i]?) parts z.cells.toList
      | none => none
    | some (.array _ e) => match sizeV P e with
      | some n => fillL (fun i => some (i * n, n)) parts z.cells.toList
      | none => none
    | _ => none
def bigL (P : Program) (t : TypeId) (parts : List (Nat × Value)) : List Value := (buildL P t parts).getD []
def repL (z : List Value) : Nat → List Value
  | 0 => []
  | n + 1 => z ++ repL z n
def buildSL (P : Program) (t : TypeId) (len : Nat) (parts : List (Nat × Value)) : Option (TypeId × List Value) :=
  match P.underlying t with
  | some (.slice e) => match P.info? e with
    | some i => match i.zero with
      | some z =>
        if z.cells.size ≠ i.size || i.size = 0 || len * i.size > 16777216 then none
        else match fillL (fun k => some (k * i.size, i.size)) parts (repL z.cells.toList len) with
          | some l => some (e, l)
          | none => none
      | none => none
    | none => none
  | _ => none
def partV (P : Program) (t : TypeId) (cs : List Value) (off : Nat) (K : Value → Prop) : Prop :=
  match P.underlying t with
  | some (.struct _) | some (.array _ _) => match sizeV P t with
    | some n => force ((cs.drop off).take n) fun l => K (.agg l.toArray)
    | none => False
  | some _ => match cs[off]? with
    | some v => K v
    | none => False
  | none => False
def slA (a : Option Addr) (m l size : Nat) : Option Addr := if m = l then a else a.map (·.add (l * size))
def opI (fr : Fr) (x : Option Operand) (k : Option Int → Prop) : Prop :=
  match x with
  | none => k none
  | some o => match ev fr o with
    | some (.int _ i) => k (some i)
    | _ => False
def slcV (a : Option Addr) (n c size : Nat) (lo hi mx : Option Int) (K : Value → Prop) : Prop :=
  match mx, hi, lo with
  | none, none, none => K (.slice a n c)
  | none, none, some l => (0 ≤ l ∧ l ≤ n) ∧ K (.slice (slA a c l.toNat size) (n - l.toNat) (c - l.toNat))
  | none, some h, none => (0 ≤ h ∧ h ≤ c) ∧ K (.slice a h.toNat c)
  | none, some h, some l => (0 ≤ l ∧ l ≤ h ∧ h ≤ c) ∧ K (.slice (slA a c l.toNat size) (h.toNat - l.toNat) (c - l.toNat))
  | some m, some h, none => (0 ≤ h ∧ h ≤ m ∧ m ≤ c) ∧ K (.slice a h.toNat m.toNat)
  | some m, some h, some l => (0 ≤ l ∧ l ≤ h ∧ h ≤ m ∧ m ≤ c) ∧ K (.slice (slA a m.toNat l.toNat size) (h.toNat - l.toNat) (m.toNat - l.toNat))
  | some _, none, _ => False
def slxV (P : Program) (t : TypeId) (x : Value) (lo hi mx : Option Int) (K : Value → Prop) : Prop :=
  match P.underlying t, x with
  | some .string, .string s =>
    match mx, hi, lo with
    | none, none, none => K (.string (s.extract 0 s.size))
    | none, none, some l => (0 ≤ l ∧ l ≤ s.size) ∧ K (.string (s.extract l.toNat s.size))
    | none, some h, none => (0 ≤ h ∧ h ≤ s.size) ∧ K (.string (s.extract 0 h.toNat))
    | none, some h, some l => (0 ≤ l ∧ l ≤ h ∧ h ≤ s.size) ∧ K (.string (s.extract l.toNat h.toNat))
    | some _, _, _ => False
  | some (.slice e), .slice a n c => match sizeV P e with
    | some size => slcV a n c size lo hi mx K
    | none => False
  | some (.array n e), .pointer p => match sizeV P e with
    | some size => onP p fun a => slcV (some a) n n size lo hi mx K
    | none => False
  | _, _ => False
def sliceV (P : Program) (fr : Fr) (t : TypeId) (x : Value) (lo hi mx : Option Operand) (K : Value → Prop) : Prop :=
  opI fr lo fun lo => opI fr hi fun hi => opI fr mx fun mx => slxV P t x lo hi mx K
def arith (wr : Option Bool) (k : IntKind) (z : Int) (K : Value → Prop) : Prop :=
  match wr with
  | some false => inR k z ∧ K (.int k z)
  | _ => K (.int k (k.wrap z))
def bits (op : BinOp) (k : IntKind) (x y : Int) : Int :=
  match op with
  | .and => k.wrap (BitVec.ofInt k.bits x &&& BitVec.ofInt k.bits y).toNat
  | .or => k.wrap (BitVec.ofInt k.bits x ||| BitVec.ofInt k.bits y).toNat
  | .xor => k.wrap (BitVec.ofInt k.bits x ^^^ BitVec.ofInt k.bits y).toNat
  | .andNot => k.wrap (BitVec.ofInt k.bits x &&& ~~~(BitVec.ofInt k.bits y)).toNat
  | _ => 0
def binV (wr : Option Bool) (P : Program) (op : BinOp) (t : TypeId) (x y : Value) (K : Value → Prop) : Prop :=
  match op, x, y with
  | .shl, .int k a, .int _ b => 0 ≤ b ∧ arith wr k (a * 2 ^ (min b.toNat k.bits)) K
  | .shr, .int k a, .int _ b => 0 ≤ b ∧ K (.int k (a.fdiv (2 ^ (min b.toNat k.bits))))
  | op, .int k a, .int k' b =>
    if k = k' then
      match op with
      | .add => arith wr k (a + b) K
      | .sub => arith wr k (a - b) K
      | .mul => arith wr k (a * b) K
      | .quo => b ≠ 0 ∧ arith wr k (a.tdiv b) K
      | .rem => b ≠ 0 ∧ K (.int k (a.tmod b))
      | .and => K (.int k (bits .and k a b))
      | .or => K (.int k (bits .or k a b))
      | .xor => K (.int k (bits .xor k a b))
      | .andNot => K (.int k (bits .andNot k a b))
      | .eql => K (.bool (decide (a = b)))
      | .neq => K (.bool (!decide (a = b)))
      | .lss => K (.bool (decide (a < b)))
      | .leq => K (.bool (decide (a ≤ b)))
      | .gtr => K (.bool (decide (b < a)))
      | .geq => K (.bool (decide (b ≤ a)))
      | _ => False
    else False
  | op, .string a, .string b =>
    match op with
    | .add => ((a.size + b.size : Nat) : Int) ≤ 9223372036854775807 ∧ K (.string (a ++ b))
    | .eql => K (.bool (decide (a = b)))
    | .neq => K (.bool (!decide (a = b)))
    | .lss => K (.bool (Op.bytesLess a.data.toList b.data.toList))
    | .leq => K (.bool (Op.bytesLess a.data.toList b.data.toList || decide (a = b)))
    | .gtr => K (.bool (!(Op.bytesLess a.data.toList b.data.toList || decide (a = b))))
    | .geq => K (.bool (!Op.bytesLess a.data.toList b.data.toList))
    | _ => False
  | .eql, .bool a, .bool b => match P.underlying t with
    | some .bool => K (.bool (a == b))
    | _ => False
  | .neq, .bool a, .bool b => match P.underlying t with
    | some .bool => K (.bool (!(a == b)))
    | _ => False
  | _, _, _ => False
def unV (wr : Option Bool) (op : UnOp) (x : Value) (K : Value → Prop) : Prop :=
  match op, x with
  | .not, .bool b => K (.bool (!b))
  | .neg, .int k n => arith wr k (0 - n) K
  | .xor, .int k n => K (.int k (bits .xor k (if k.signed then -1 else k.max) n))
  | _, _ => False
def lenV (P : Program) (ts : Array TypeId) (x : Value) (K : Value → Prop) : Prop :=
  match ts[0]? with
  | none => False
  | some t =>
    match P.underlying t, x with
    | some .string, .string s => K (.int .i64 s.size)
    | some (.slice _), .slice _ n _ => K (.int .i64 n)
    | some (.array n _), _ => K (.int .i64 n)
    | some (.pointer e), _ => match P.underlying e with
      | some (.array n _) => K (.int .i64 n)
      | _ => False
    | _, _ => False
def capV (P : Program) (ts : Array TypeId) (x : Value) (K : Value → Prop) : Prop :=
  match ts[0]? with
  | none => False
  | some t =>
    match P.underlying t, x with
    | some (.slice _), .slice _ _ c => K (.int .i64 c)
    | some (.array n _), _ => K (.int .i64 n)
    | _, _ => False
def pureV (wr : Option Bool) (P : Program) (fr : Fr) (o : Oper) (K : Value → Prop) : Prop :=
  match o.op with
  | .move x => onV (ev fr x) K
  | .assign x => onV (ev fr x) K
  | .pick c a b => match ev fr c with
    | some (.bool t) => br t (onV (ev fr a) K) (onV (ev fr b) K)
    | _ => False
  | .build t parts => match partsOf fr parts.toList with
    | some ps => match buildL P t ps with
      | some _ => forceB (bigT P t) (bigL P t ps) fun l => K (.agg l.toArray)
      | none => False
    | none => False
  | .nilCheck x => match ev fr x with
    | some (.pointer p) => onP p fun a => K (.pointer (some a))
    | some (.func (.func f) fi ca) => K (.func (.func f) fi ca)
    | some (.iface t v) => K (.iface t v)
    | _ => False
  | .binOp op t x y _ => onV (ev fr x) fun a => onV (ev fr y) fun b => binV wr P op t a b K
  | .unOp op _ x => onV (ev fr x) fun a => unV wr op a K
  | .convert src dst x => match P.underlying src, P.underlying dst, ev fr x with
    | some (.int _), some (.int k), some (.int _ n) => K (.int k (k.wrap n))
    | some .string, some .string, some (.string s) => K (.string s)
    | _, _, _ => False
  | .makeInterface t x => match P.underlying t with
    | some (.interface _) => False
    | some _ => onV (ev fr x) fun v => K (.iface t v)
    | none => False
  | .makeFunc fn first captured => match evs fr first.toList, evs fr captured.toList with
    | some fi, some ca => K (.func fn fi.toArray ca.toArray)
    | _, _ => False
  | .slice t x lo hi mx => onV (ev fr x) fun v => sliceV P fr t v lo hi mx K
  | .fieldAddr s x f => match P.underlying s, ev fr x with
    | some (.struct fs), some (.pointer p) => match fs[f]? with
      | some fd => match sizeV P fd.type with
        | some (_ + 1) => onP p fun a => K (.pointer (some (a.add fd.offset)))
        | _ => False
      | none => False
    | _, _ => False
  | .field t x f => match P.underlying t, ev fr x with
    | some (.struct fs), some (.agg cs) => match fs[f]? with
      | some fd => partV P fd.type cs.toList fd.offset K
      | none => False
    | _, _ => False
  | .indexAddr t x ix => match P.underlying t, ev fr x, ev fr ix with
    | some (.slice e), some (.slice p n _), some (.int _ i) => match sizeV P e with
      | some sz => onP p fun a => (0 ≤ i ∧ i < n) ∧ K (.pointer (some (a.add (i.toNat * sz))))
      | none => False
    | some (.array n e), some (.pointer p), some (.int _ i) => match sizeV P e with
      | some sz => onP p fun a => (0 ≤ i ∧ i < n) ∧ K (.pointer (some (a.add (i.toNat * sz))))
      | none => False
    | _, _, _ => False
  | .index t x ix => match P.underlying t, ev fr x, ev fr ix with
    | some .string, some (.string s), some (.int _ i) => (0 ≤ i ∧ i < s.size) ∧ K (.int .u8 (sb s i))
    | some (.array n e), some (.agg cs), some (.int _ i) => match sizeV P e with
      | some sz => (0 ≤ i ∧ i < n) ∧ exVw wr P e fun v => Prt P e cs.toList (i.toNat * sz) v ∧ K v
      | none => False
    | _, _, _ => False
  | .extract x i => match ev fr x with
    | some (.tuple vs) => match vs[i]? with
      | some v => K v
      | none => False
    | _ => False
  | .call c => match c.callee, c.args.toList with
    | .builtin .len, [x] => onV (ev fr x) fun v => lenV P c.argTypes v K
    | .builtin .cap, [x] => onV (ev fr x) fun v => capV P c.argTypes v K
    | .builtin .min, [x, y] => match ev fr x, ev fr y with
      | some (.int k a), some (.int _ b) => K (.int k (min a b))
      | _, _ => False
    | .builtin .max, [x, y] => match ev fr x, ev fr y with
      | some (.int k a), some (.int _ b) => K (.int k (max a b))
      | _, _ => False
    | _, _ => False
  | _ => False
def readV (P : Program) (fr : Fr) (o : Oper) (w : World) (v : Value) : Prop :=
  match o.op with
  | .load t x => match ev fr x with
    | some (.pointer p) => onP p fun a => Ld P t w a v
    | _ => False
  | .lookup t x k ok => onV (ev fr x) fun m => onV (ev fr k) fun k => Lk P t ok w m k v
  | .binOp op t x y _ => onV (ev fr x) fun a => onV (ev fr y) fun b => match v with
    | .bool r => Eqv P op t x y w a b r
    | _ => False
  | .convert src dst x => onV (ev fr x) fun a => B2S P src dst w a v
  | .typeAssert x xT t ok => onV (ev fr x) fun a => TAs P xT t ok w a v
  | .call c => match c.callee, c.args.toList with
    | .builtin .len, [x] => onV (ev fr x) fun m => LenM P c.argTypes o.type w m v
    | _, _ => False
  | _ => False
def callXF (wr : Option Bool) (P : Program) (fv : Value) (args : List Value) (t : TypeId) (w : World) (K : Option Value → World → Prop) : Prop :=
  CallX P fv args w fun e w' => exTw wr P t fun v => e = .returned v ∧ K (some v) w'
def extT : List Oper → Option Nat → Nat → Option TypeId
  | [], _, _ => none
  | o :: r, d, i => match o.op, d with
    | .extract (.tmp x) j, some d => match Nat.beq x d && Nat.beq j i with
      | true => some o.type
      | false => extT r (some d) i
    | _, d => extT r d i
def exO (wr : Option Bool) (P : Program) (t : Option TypeId) (C : Value → Prop) : Prop := match t with
  | some t => exTw wr P t C
  | none => ∃ v, C v
def onPt (x : Option Value) (k : Addr → Prop) : Prop :=
  match x with
  | some (.pointer p) => onP p k
  | _ => False
def biE (P : Program) (ty : TypeId) (ts : Array TypeId) (w : World) (K : Option Value → World → Prop) (b : Builtin) (args : List Value) : Prop :=
  match b, args with
  | .append, [s, x] => ∃ (a : Option Addr) (n m : Nat) (w1 : World), App P ts ty w s x (.slice a n m) w1 ∧ K (some (.slice a n m)) w1
  | .copy, [d, s] => ∃ (n : Int) (w1 : World), Cpy P ts ty w d s (.int .i64 n) w1 ∧ K (some (.int .i64 n)) w1
  | .delete, [m, k] => ∃ w1, Del P ts ty w m k w1 ∧ K (some (.tuple #[])) w1
  | .clear, [m] => ∃ w1, Clr P ts ty w m w1 ∧ K (some (.tuple #[])) w1
  | _, _ => False
def effV (wr : Option Bool) (P : Program) (ops : List Oper) (fr : Fr) (o : Oper) (w : World) (K : Option Value → World → Prop) : Prop :=
  match o.op with
  | .alloc t => onO (zeroOf P t) fun _ => forceB (bigT P t) (zl P t) fun l => ∀ b w1, New w (.cells l.toArray t) b w1 → K (some (.pointer (some ⟨b, 0, none⟩))) w1
  | .box t x => onV (ev fr x) fun v => forceB (bigT P t) v.cells.toList fun l => ∀ b w1, New w (.cells l.toArray t) b w1 → K (some (.pointer (some ⟨b, 0, none⟩))) w1
  | .buildSlice t len parts => onO (partsOf fr parts.toList) fun ps => onO (buildSL P t len ps) fun x => forceB false x.2 fun l => ∀ b w1, New w (.cells l.toArray x.1) b w1 → K (some (.slice (some ⟨b, 0, none⟩) len len)) w1
  | .store t x y => onPt (ev fr x) fun a => onV (ev fr y) fun v => ∃ w1, St P t w a v w1 ∧ K none w1
  | .convert src dst x => onV (ev fr x) fun v => ∃ (a : Option Addr) (l c : Nat) (w1 : World), S2B P src dst w v (.slice a l c) w1 ∧ K (some (.slice a l c)) w1
  | .makeSlice t l c => onV (ev fr l) fun l => onV (ev fr c) fun c => ∃ (a : Option Addr) (n m : Nat) (w1 : World), MkS P t w l c (.slice a n m) w1 ∧ K (some (.slice a n m)) w1
  | .makeMap t none => ∀ b w1, New w (.map #[] 0) b w1 → K (some (.map (some b))) w1
  | .mapUpdate t m k x | .insert t m k x => onV (ev fr m) fun m => onV (ev fr k) fun k => onV (ev fr x) fun v => ∃ w1, MUp P t w m k v w1 ∧ K none w1
  | .mapEntry t m k => onV (ev fr m) fun m => onV (ev fr k) fun k => ∃ (v : Value) (i : Int) (w1 : World), MEn P t w m k (.tuple #[v, .int .i64 i]) w1 ∧ K (some (.tuple #[v, .int .i64 i])) w1
  | .entryStore t m s x => onV (ev fr m) fun m => onV (ev fr s) fun s => onV (ev fr x) fun v => ∃ w1, ESt P t w m s v w1 ∧ K none w1
  | .range t x => onV (ev fr x) fun v => ∃ (p : Option Addr) (w1 : World), Rng P t w v (.pointer p) w1 ∧ K (some (.pointer p)) w1
  | .next it isS => onV (ev fr it) fun i =>
      (∃ w1, Nxt P isS o.type w i (.tuple #[.bool false]) w1 ∧ K (some (.tuple #[.bool false])) w1) ∨
      (∃ (k v : Value) (w1 : World), Nxt P isS o.type w i (.tuple #[.bool true, k, v]) w1 ∧ K (some (.tuple #[.bool true, k, v])) w1)
  | .entry it => onV (ev fr it) fun i => exO wr P (extT ops o.dst 0) fun k => exO wr P (extT ops o.dst 1) fun v => ∃ w1, Etr P w i (.tuple #[k, v]) w1 ∧ K (some (.tuple #[k, v])) w1
  | .call c => onO (evs fr c.args.toList) fun args => match c.callee with
    | .value f => onV (ev fr f) fun fv => callXF wr P fv args o.type w K
    | .builtin b => biE P o.type c.argTypes w K b args
    | _ => False
  | _ => False
def cls (P : Program) (op : Op) : Nat :=
  match op with
  | .move _ | .assign _ | .pick .. | .build .. | .nilCheck _ | .unOp .. | .makeInterface .. | .makeFunc .. | .slice .. | .fieldAddr .. | .field .. | .indexAddr .. | .index .. | .extract .. => 0
  | .binOp op t _ _ _ => match op with
    | .eql | .neq => match P.underlying t with
      | some (.int _) | some .string | some .bool => 0
      | _ => 1
    | _ => 0
  | .convert src dst _ => match P.underlying src, P.underlying dst with
    | some (.slice _), some .string => 1
    | some .string, some (.slice _) => 2
    | some (.slice _), some (.slice _) => 2
    | _, _ => 0
  | .load .. | .lookup .. | .typeAssert .. => 1
  | .call c => match c.callee with
    | .builtin .len => match c.argTypes[0]? with
      | some t => match P.underlying t with
        | some (.map _ _) => 1
        | _ => 0
      | none => 0
    | .builtin .cap | .builtin .min | .builtin .max => 0
    | _ => 2
  | _ => 2
abbrev Past := List (Nat × (World → Prop))
def again (bef : Nat → Nat → Bool) (j : Nat) : Past → World → Prop → Prop
  | [], _, X => X
  | (i, f) :: p, w, X => match bef i j with
    | true => again bef j p w X
    | false => f w ∧ again bef j p w X
def spl (sp : Bool) (v : Value) (K : Value → Prop) : Prop :=
  match sp, v with
  | true, .bool b => br b (K (.bool true)) (K (.bool false))
  | _, _ => K v
def slotOf (ops : List Oper) (j : Nat) : Option Nat := match ops[j]? with
  | some o => o.dst
  | none => none
def isGuard (ops : List Oper) (i : Nat) : Bool := ops.any fun o => match o.guard with
  | some (j, _) => j == i
  | none => false
def execV (wr : Option Bool) (P : Program) (bef : Nat → Nat → Bool) (ops : List Oper) (i : Nat) (o : Oper) (fr : Fr) (w : World) (past : Past) (K : Option Value → World → Past → Prop) : Prop :=
  match cls P o.op with
  | 0 => pureV wr P fr o fun v => spl (isGuard ops i) v fun v => K (some v) w past
  | 1 => exTw wr P o.type fun v => readV P fr o w v ∧ spl (isGuard ops i) v fun v' => K (some v') w ((i, fun w' => readV P fr o w' v) :: past)
  | _ => effV wr P ops fr o w fun rv w' => again bef i past w' (match rv with
    | some v => spl (isGuard ops i) v fun v => K (some v) w' past
    | none => K none w' past)
def fput (nt : Nat) (fr : Fr) (d : Option Nat) (v : Option Value) (k : Fr → Prop) : Prop :=
  match d with
  | some d => match Nat.blt d nt with
    | true => k ((d, v) :: fr)
    | false => False
  | none => k fr
def stepD (wr : Option Bool) (P : Program) (bef : Nat → Nat → Bool) (ops : List Oper) (i : Nat) (o : Oper) (fr : Fr) (w : World) (past : Past) (K : Option Value → World → Past → Prop) : Prop :=
  match o.guard with
  | none => execV wr P bef ops i o fr w past K
  | some (j, want) => match slotOf ops j with
    | none => False
    | some s => match fget fr s with
      | some (.bool b) =>
        match b, want with
        | true, true | false, false => execV wr P bef ops i o fr w past K
        | _, _ => K (some (.tuple #[])) w past
      | some (.tuple _) => K (some (.tuple #[])) w past
      | _ => False
def runV (wr : Option Bool) (P : Program) (nt : Nat) (bef : Nat → Nat → Bool) (ops : List Oper) (K : Fr → World → Prop) : List Nat → Fr → World → Past → Prop
  | [], fr, w, _ => K fr w
  | i :: r, fr, w, past =>
    match ops[i]? with
    | none => False
    | some o => stepD wr P bef ops i o fr w past fun v w' past' => fput nt fr o.dst v fun fr' => runV wr P nt bef ops K r fr' w' past'
def edges (o : Oper) : List Nat := (o.after.toList.filter fun e => Region.binds .any e).map (·.on)
def edgesX (ex : List (Nat × Nat)) (j : Nat) (o : Oper) : List Nat := edges o ++ (ex.filter fun p => Nat.beq p.2 j).map (·.1)
def getN (l : List Nat) (e : Nat) : Nat := (l[e]?).getD 0
def passM (ex : List (Nat × Nat)) (prev : List Nat) (ops : List Oper) : List Nat :=
  ops.foldl (fun acc o => acc ++ [(edgesX ex acc.length o).foldl (fun s e => Nat.lor s (Nat.lor (Nat.pow 2 e) (Nat.lor (getN acc e) (getN prev e)))) 0]) []
def closure (ex : List (Nat × Nat)) (ops : List Oper) : List Nat :=
  match ex with
  | [] => passM ex [] ops
  | _ => passM ex (passM ex (passM ex [] ops) ops) ops
def before (cl : List Nat) (i j : Nat) : Bool := Nat.testBit (getN cl j) i
def within (m done : Nat) : Bool := Nat.beq (Nat.lor m done) done
def pickNext (P : Program) (ops : List Oper) (cl : List Nat) (done : Nat) : List Nat → Option Nat → Option Nat
  | [], late => late
  | i :: r, late =>
    match Nat.testBit done i with
    | true => pickNext P ops cl done r late
    | false =>
      match within (getN cl i) done with
      | false => pickNext P ops cl done r late
      | true => match ops[i]? with
        | some o => match cls P o.op with
          | 0 => some i
          | 1 => some i
          | _ => pickNext P ops cl done r (match late with
            | none => some i
            | some l => some l)
        | none => none
def orderOf (P : Program) (ops : List Oper) (cl : List Nat) (all : List Nat) : Nat → Nat → List Nat
  | 0, _ => []
  | n + 1, done => match pickNext P ops cl done all none with
    | some i => i :: orderOf P ops cl all n (Nat.lor done (Nat.pow 2 i))
    | none => []
def turners (P : Program) : List Oper → Nat → List Nat
  | [], _ => []
  | o :: r, i => match cls P o.op with
    | 0 => turners P r (i + 1)
    | 1 => turners P r (i + 1)
    | _ => i :: turners P r (i + 1)
def remove (x : Nat) : List Nat → List Nat
  | [] => []
  | y :: r => match Nat.beq x y with
    | true => r
    | false => y :: remove x r
def extsOf (cl : List Nat) : Nat → List Nat → List (List Nat)
  | 0, _ => [[]]
  | n + 1, l => (l.filter fun x => l.all fun y => !before cl y x).flatMap fun x => (extsOf cl n (remove x l)).map (x :: ·)
def chainOf : List Nat → List (Nat × Nat)
  | x :: y :: r => (x, y) :: chainOf (y :: r)
  | _ => []
def nodupB : List Nat → Bool
  | [] => true
  | x :: r => !r.contains x && nodupB r
def posIn (x : Nat) : List Nat → Nat
  | [] => 0
  | y :: r => match Nat.beq x y with
    | true => 0
    | false => posIn x r + 1
def edgesIn (m : Region.Mode) (o : Oper) : List Nat := (o.after.toList.filter fun e => Region.binds m e).map (·.on)
def forward (m : Region.Mode) (ops : List Oper) (σ : List Nat) : Bool :=
  (List.range ops.length).all fun i => match ops[i]? with
    | some o => (edgesIn m o).all fun j => decide (j < ops.length) && decide (posIn j σ < posIn i σ)
    | none => false
def opTs (o : Op) : List Nat := o.operands.toList.filterMap fun x => match x with
  | .tmp t => some t
  | _ => none
def apartB (ops : List Oper) (i j : Nat) : Bool :=
  match ops[i]?, ops[j]? with
  | some a, some b =>
    match a.dst, b.dst with
    | some x, some y => !(x == y) && !(opTs a.op).contains y && !(opTs b.op).contains x &&
        (match a.guard with
          | some (k, _) => match slotOf ops k with
            | some s => !(s == y)
            | none => true
          | none => true) &&
        (match b.guard with
          | some (k, _) => match slotOf ops k with
            | some s => !(s == x)
            | none => true
          | none => true)
    | some x, none => !(opTs b.op).contains x &&
        (match b.guard with
          | some (k, _) => match slotOf ops k with
            | some s => !(s == x)
            | none => true
          | none => true)
    | none, some y => !(opTs a.op).contains y &&
        (match a.guard with
          | some (k, _) => match slotOf ops k with
            | some s => !(s == y)
            | none => true
          | none => true)
    | none, none => true
  | _, _ => false
def pairsOk (f : Nat → Nat → Bool) : List Nat → Bool
  | [] => true
  | i :: r => r.all (f i) && pairsOk f r
def turnOk (P : Program) (ops : List Oper) (cl : List Nat) (i j : Nat) : Bool :=
  before cl i j ||
  (!before cl j i && apartB ops i j &&
    match ops[i]?, ops[j]? with
    | some a, some b => match cls P a.op, cls P b.op with
      | 0, _ => true
      | _, 0 => true
      | 1, _ => true
      | _, _ => false
    | _, _ => false)
def drawOk (P : Program) (ops : Array Oper) (cl : List Nat) (σ : List Nat) : Bool :=
  decide (σ.length = ops.toList.length) && nodupB σ && σ.all (fun i => decide (i < ops.toList.length)) && pairsOk (turnOk P ops.toList cl) σ
def drawBase (ops : Array Oper) : Bool :=
  forward .any ops.toList (List.range ops.toList.length) &&
  (!Region.departs ops || (forward .text ops.toList (List.range ops.toList.length) && forward .gc ops.toList (Region.linearise .gc ops 0)))
abbrev Kd := IntKind ⊕ Nat
def KTy : Kd → Type
  | .inl _ => Int
  | .inr 0 => Bool
  | .inr 1 => ByteArray
  | .inr 2 => Option Addr
  | .inr 3 => Option Addr × Nat × Nat
  | .inr 4 => Option Nat
  | .inr (_ + 5) => Value
def toV : (k : Kd) → KTy k → Value
  | .inl k, n => .int k n
  | .inr 0, b => .bool b
  | .inr 1, s => .string s
  | .inr 2, p => .pointer p
  | .inr 3, x => .slice x.1 x.2.1 x.2.2
  | .inr 4, m => .map m
  | .inr (_ + 5), v => v
def fromV : (k : Kd) → Value → Option (KTy k)
  | .inl k, .int k' n => match decide (k = k') with
    | true => some n
    | false => none
  | .inr 0, .bool b => some b
  | .inr 1, .string s => some s
  | .inr 2, .pointer p => some p
  | .inr 3, .slice a l c => some (a, l, c)
  | .inr 4, .map m => some m
  | .inr (_ + 5), v => some v
  | _, _ => none
def StTy : List (Nat × Kd) → Type
  | [] => Unit
  | [x] => KTy x.2
  | x :: y :: r => KTy x.2 × StTy (y :: r)
def setSt : (l : List (Nat × Kd)) → StTy l → Fr → Fr
  | [], _, fr => fr
  | [x], s, fr => (x.1, some (toV x.2 s)) :: fr
  | x :: y :: r, s, fr => (x.1, some (toV x.2 s.1)) :: setSt (y :: r) s.2 fr
def getSt : (l : List (Nat × Kd)) → Fr → (StTy l → Prop) → Prop
  | [], _, K => K ()
  | [x], fr, K => match fget fr x.1 with
    | some v => match fromV x.2 v with
      | some s => K s
      | none => False
    | none => False
  | x :: y :: r, fr, K => match fget fr x.1 with
    | some v => match fromV x.2 v with
      | some s => getSt (y :: r) fr fun s' => K (s, s')
      | none => False
    | none => False
def havoc : List Nat → Fr → Fr
  | [], fr => fr
  | t :: r, fr => (t, none) :: havoc r fr
def opsMods : List Oper → List Nat
  | [] => []
  | o :: r => match o.dst with
    | some d => d :: opsMods r
    | none => opsMods r
def mods : Code → List Nat
  | .region _ ops _ => opsMods ops.toList
  | .seq a b => mods a ++ mods b
  | .cond _ a b => mods a ++ mods b
  | .block _ c => mods c
  | .loop c => mods c
  | .scope c => mods c
  | _ => []
def firstR : Code → Option Nat
  | .region id _ _ => some id
  | .seq a b => match firstR a with
    | some i => some i
    | none => firstR b
  | .cond _ a b => match firstR a with
    | some i => some i
    | none => firstR b
  | .block _ c => firstR c
  | .loop c => firstR c
  | .scope c => firstR c
  | _ => none
def stOk : List (Nat × Kd) → List Nat → Bool
  | [], _ => true
  | x :: r, ms => ms.contains x.1 && stOk r ms
structure An where
  wraps : List Nat := []
  loops : List (Nat × List (Nat × Kd)) := []
  joins : List (Nat × List (Nat × Kd)) := []
  ranges : List (Nat × List (Nat × Kd)) := []
def An.find (l : List (Nat × List (Nat × Kd))) (i : Option Nat) : Option (List (Nat × Kd)) :=
  match i with
  | none => none
  | some i => match l with
    | [] => none
    | (j, s) :: r => match Nat.beq i j with
      | true => some s
      | false => An.find r (some i)
def noRF : Code → Bool
  | .seq a b => noRF a && noRF b
  | .cond _ a b => noRF a && noRF b
  | .block _ c => noRF c
  | .loop c => noRF c
  | .scope c => noRF c
  | .rangeFunc .. => false
  | _ => true
def exitsOf : Code → List Nat
  | .seq a b => exitsOf a ++ exitsOf b
  | .cond _ a b => exitsOf a ++ exitsOf b
  | .block id c => (exitsOf c).filter fun x => !Nat.beq x id
  | .loop c => exitsOf c
  | .scope c => exitsOf c
  | .exit id => [id]
  | _ => []
def retsIn : Code → Bool
  | .seq a b => retsIn a || retsIn b
  | .cond _ a b => retsIn a || retsIn b
  | .block _ c => retsIn c
  | .loop c => retsIn c
  | .scope c => retsIn c
  | .ret => true
  | _ => false
def isIn (i : Nat) : List Nat → Bool
  | [] => false
  | x :: r => Nat.beq i x || isIn i r
def argsOf : (l : List (Nat × Kd)) → StTy l → List Value
  | [], _ => []
  | [x], s => [toV x.2 s]
  | x :: y :: r, s => toV x.2 s.1 :: argsOf (y :: r) s.2
def psOk (nt : Nat) (st : List (Nat × Kd)) (ps : List Nat) : Bool := (st.map (·.1) == ps) && nodupB ps && ps.all (Nat.blt · nt)
def drawAll (f : List Nat → Prop) : List (List Nat) → Prop
  | [] => True
  | [x] => f x
  | x :: y :: r => f x ∧ drawAll f (y :: r)
def V (P : Program) (an : An) (nt : Nat) : Code → Fr → List Nat → World → (Exit → Fr → List Nat → World → Prop) → Prop
  | .skip, fr, ms, w, Q => Q .normal fr ms w
  | .region id ops draw, fr, ms, w, Q =>
    match draw with
    | false => runV (some (an.wraps.contains id)) P nt (fun _ _ => true) ops.toList (fun fr w => Q .normal fr ms w) (List.range ops.toList.length) fr w []
    | true => match drawBase ops with
      | true => drawAll (fun eo => match closure (chainOf eo) ops.toList with
        | cl => match orderOf P ops.toList cl (List.range ops.toList.length) ops.toList.length 0 with
          | σ => match drawOk P ops cl σ with
            | true => runV (some (an.wraps.contains id)) P nt (before cl) ops.toList (fun fr w => Q .normal fr ms w) σ fr w.drew []
            | false => False) (match turners P ops.toList 0 with
          | ts => extsOf (closure [] ops.toList) ts.length ts)
      | false => False
  | .seq a b, fr, ms, w, Q =>
    match An.find an.joins (firstR b) with
    | some st => match stOk st (mods a) && noRF a with
      | true => JoinP (fun (s : StTy st) w' => V P an nt b (setSt st s (havoc (mods a) fr)) ms w' Q) (fun J => V P an nt a fr ms w (fun e fr' ms' w' => match e with
        | .normal => getSt st fr' fun s => J s w'
        | e => Q e fr' ms' w'))
      | false => False
    | none => V P an nt a fr ms w (fun e fr' ms' w' => match e with
        | .normal => V P an nt b fr' ms' w' Q
        | e => Q e fr' ms' w')
  | .cond c x y, fr, ms, w, Q =>
    match ev fr c with
    | some (.bool b) => br b (V P an nt x fr ms w Q) (V P an nt y fr ms w Q)
    | _ => False
  | .block id c, fr, ms, w, Q => V P an nt c fr ms w (fun e fr' ms' w' => match e with
      | .exit id' => match Nat.beq id' id with
        | true => Q .normal fr' ms' w'
        | false => Q (.exit id') fr' ms' w'
      | e => Q e fr' ms' w')
  | .loop c, fr, ms, w, Q =>
    match An.find an.loops (firstR c) with
    | some st => match stOk st (mods c) with
      | true => match noRF c with
        | true => getSt st fr fun s0 => LoopP (fun (s : StTy st) w' next => V P an nt c (setSt st s (havoc (mods c) fr)) ms w' (fun e fr' ms' w'' => match e with
          | .normal => getSt st fr' fun s' => next s' w''
          | e => Q e fr' ms' w'')) s0 w
        | false => getSt st fr fun s0 => LoopP (fun (s : StTy st × List Nat) w' next => V P an nt c (setSt st s.1 (havoc (mods c) fr)) s.2 w' (fun e fr' ms' w'' => match e with
          | .normal => getSt st fr' fun s' => next (s', ms') w''
          | e => Q e fr' ms' w'')) (s0, ms) w
      | false => False
    | none => False
  | .exit id, fr, ms, w, Q => Q (.exit id) fr ms w
  | .scope c, fr, ms, w, Q => V P an nt c fr ms w (fun e fr' ms' w' => match e with
      | .goto _ => False
      | e => Q e fr' ms' w')
  | .label _, fr, ms, w, Q => Q .normal fr ms w
  | .ret, fr, ms, w, Q => Q .ret fr ms w
  | .rangeFunc g ps assign body, fr, ms, w, Q =>
    match An.find an.ranges (firstR body) with
    | some st => match psOk nt st ps.toList && (noRF assign && noRF body) with
      | true => match ev fr g with
        | some v => ∃ (gf : FuncId) (fi ca : Array Value), v = .func (.func gf) fi ca ∧ HasBody P gf ∧ RangeP P gf fi.toList ca.toList (argsOf st) (fun (s : StTy st) w' begin kn kr kx => V P an nt assign (setSt st s fr) [] w' (fun e fr1 _ w1 => match e with
                | .normal => begin w1 fun w2 => V P an nt body fr1 [] w2 (fun e _ _ w3 => match e with
                  | .normal => kn w3
                  | .ret => kr w3
                  | .exit id => kx id w3
                  | _ => False)
                | _ => False)) w (fun D w' => Q .normal fr (D :: ms) w') (fun D w' => match retsIn body with
                | true => Q .ret fr (D :: ms) w'
                | false => False) (fun id D w' => match isIn id (exitsOf body) with
                | true => Q (.exit id) fr (D :: ms) w'
                | false => False)
        | _ => False
      | false => False
    | none => False
  | _, _, _, _, _ => False
def resV (P : Program) (fr : Fr) (w : World) : List ResultVar → (List Value → Prop) → Prop
  | [], K => K []
  | .tmp t :: r, K => onV (fget fr t) fun v => resV P fr w r fun l => K (v :: l)
  | .cell a t :: r, K => match fget fr a with
    | some (.pointer p) => onP p fun a => exV P t fun v => Ld P t w a v ∧ resV P fr w r fun l => K (v :: l)
    | _ => False
def retV (P : Program) (fn : Func) (fr : Fr) (w : World) (R : Ending → World → Prop) : Prop :=
  resV P fr w fn.results.toList fun l => match l with
    | [v] => R (.returned v) w
    | l => R (.returned (.tuple l.toArray)) w
def argFr : Nat → List Value → Fr
  | _, [] => []
  | i, v :: r => (i, some v) :: argFr (i + 1) r
def shutV (P : Program) (fn : Func) (fr : Fr) : List Nat → World → (Ending → World → Prop) → Prop
  | [], w, R => retV P fn fr w R
  | D :: ms, w, R => ∃ w1, ShutD w D w1 ∧ shutV P fn fr ms w1 R
def ShutAll : List Nat → World → World → Prop
  | [], w, w1 => w1 = w
  | D :: ms, w, w1 => ∃ w', ShutD w D w' ∧ ShutAll ms w' w1
def hasLRF : Code → Bool
  | .seq a b => hasLRF a || hasLRF b
  | .cond _ a b => hasLRF a || hasLRF b
  | .block _ c => hasLRF c
  | .loop c => !noRF c
  | .scope c => hasLRF c
  | _ => false
def endV (P : Program) (fn : Func) (c : Code) (fr : Fr) (ms : List Nat) (w : World) (R : Ending → World → Prop) : Prop :=
  match hasLRF c with
  | false => shutV P fn fr ms w R
  | true => ∃ w1, ShutAll ms w w1 ∧ retV P fn fr w1 R
def bodyV (P : Program) (an : An) (fn : Func) (args : List Value) (w : World) (R : Ending → World → Prop) : Prop :=
  match fn.body with
  | none => False
  | some c => V P an fn.ntmps c (argFr 0 args) [] w (fun e fr' ms w' => match e with
    | .normal => endV P fn c fr' ms w' R
    | .ret => endV P fn c fr' ms w' R
    | _ => False)
end
end Go.Vc
namespace Go.Vc
open Go
structure Ref (nt : Nat) (ds : List Deferred) (fr : Fr) (a : Act) : Prop where
  size : a.tmps.size = nt
  defers : a.defers = ds
  val : ∀ t v, fget fr t = some v → a.tmps[t]? = some v
theorem fget_nil (t : Nat) : fget [] t = none := rfl
theorem fget_cons (x : Nat × Option Value) (fr : Fr) (t : Nat) : fget (x :: fr) t = cond (Nat.beq t x.1) x.2 (fget fr t) := rfl
theorem fget_hit (d : Nat) (v : Option Value) (fr : Fr) : fget ((d, v) :: fr) d = v := by rw [fget_cons]; simp
theorem fget_miss (d t : Nat) (v : Option Value) (fr : Fr) (h : t ≠ d) : fget ((d, v) :: fr) t = fget fr t := by
  rw [fget_cons]
  have : Nat.beq t d = false := by cases hb : Nat.beq t d with
    | false => rfl
    | true => exact absurd (Nat.eq_of_beq_eq_true hb) h
  simp [this]
section
variable {nt : Nat} {ds : List Deferred} {fr : Fr} {a : Act}
theorem Ref.ev (hr : Ref nt ds fr a) {x : Operand} {v : Value} (h : ev fr x = some v) : a.eval x = v := by
  cases x with
  | tmp t =>
    have := hr.val t v h
    simp [Act.eval, Array.getD_eq_getD_getElem?, this]
  | const c => simpa [Vc.ev, Act.eval] using h
  | global g => simpa [Vc.ev, Act.eval] using h
  | func f => simpa [Vc.ev, Act.eval] using h
theorem evs_cons {x : Operand} {r : List Operand} {l : List Value} (h : evs fr (x :: r) = some l) : ∃ v l', Vc.ev fr x = some v ∧ evs fr r = some l' ∧ l = v :: l' := by
  simp only [evs] at h
  split at h
  · split at h
    · cases h; exact ⟨_, _, by assumption, by assumption, rfl⟩
    · cases h
  · cases h
theorem Ref.evs (hr : Ref nt ds fr a) : ∀ {xs : List Operand} {l : List Value}, evs fr xs = some l → xs.map a.eval = l
  | [], l, h => by simp [Vc.evs] at h; simp [h]
  | x :: r, l, h => by
    obtain ⟨v, l', h1, h2, rfl⟩ := evs_cons h
    simp [hr.ev h1, Ref.evs hr h2]
theorem Ref.evsA (hr : Ref nt ds fr a) {xs : Array Operand} {l : List Value} (h : Vc.evs fr xs.toList = some l) : xs.map a.eval = l.toArray := by
  have := hr.evs h
  apply Array.toList_inj.1
  simpa using this
theorem Ref.parts (hr : Ref nt ds fr a) : ∀ {xs : List (Nat × Operand)} {l : List (Nat × Value)}, partsOf fr xs = some l → xs.map (fun p => (p.1, a.eval p.2)) = l
  | [], l, h => by simp [partsOf] at h; simp [h]
  | (i, x) :: r, l, h => by
    simp only [partsOf] at h
    split at h
    · split at h
      · cases h; rename_i v hv _ l' hl
        simp [hr.ev hv, Ref.parts hr hl]
      · cases h
    · cases h
theorem Ref.put (hr : Ref nt ds fr a) {d : Nat} (hd : d < nt) (v : Value) : Ref nt ds ((d, some v) :: fr) (a.put (some d) v) := by
  refine ⟨by simp [Act.put, hr.size], by simp [Act.put, hr.defers], fun t u h => ?_⟩
  by_cases ht : t = d
  · subst ht
    rw [fget_hit] at h
    cases h
    simp [Act.put, Array.getElem?_setIfInBounds, hr.size, hd]
  · rw [fget_miss _ _ _ _ ht] at h
    have := hr.val t u h
    simp [Act.put, Array.getElem?_setIfInBounds, Ne.symm ht, this]
theorem Ref.lose (hr : Ref nt ds fr a) (d : Option Nat) (v : Value) : ∀ d', d = some d' → Ref nt ds ((d', none) :: fr) (a.put d v) := by
  rintro d' rfl
  refine ⟨by simp [Act.put, hr.size], by simp [Act.put, hr.defers], fun t u h => ?_⟩
  by_cases ht : t = d'
  · subst ht
    rw [fget_hit] at h
    cases h
  · rw [fget_miss _ _ _ _ ht] at h
    have := hr.val t u h
    simp [Act.put, Array.getElem?_setIfInBounds, Ne.symm ht, this]
theorem Ref.fput (hr : Ref nt ds fr a) {d : Option Nat} {rv : Option Value} {v : Value} (hv : ∀ u, rv = some u → v = u) {k : Fr → Prop} (h : fput nt fr d rv k) :
    ∃ fr', k fr' ∧ Ref nt ds fr' (a.put d v) := by
  cases d with
  | none => exact ⟨fr, h, hr⟩
  | some d =>
    simp only [Vc.fput] at h
    split at h
    · rename_i hb
      have hd : d < nt := by simpa [Nat.blt_eq] using hb
      refine ⟨_, h, ?_⟩
      cases rv with
      | some u => cases hv u rfl; exact hr.put hd v
      | none => exact hr.lose (some d) v d rfl
    · exact h.elim
end
theorem onV_some {x : Option Value} {k : Value → Prop} (h : onV x k) : ∃ v, x = some v ∧ k v := by
  cases x with
  | none => exact h.elim
  | some v => exact ⟨v, rfl, h⟩
theorem onO_some {α : Type} {x : Option α} {k : α → Prop} (h : onO x k) : ∃ v, x = some v ∧ k v := by
  cases x with
  | none => exact h.elim
  | some v => exact ⟨v, rfl, h⟩
theorem onP_some {x : Option Addr} {k : Addr → Prop} (h : onP x k) : ∃ v, x = some v ∧ k v := by
  cases x with
  | none => exact h.elim
  | some v => exact ⟨v, rfl, h⟩
theorem onPt_some {x : Option Value} {k : Addr → Prop} (h : onPt x k) : ∃ a, x = some (.pointer (some a)) ∧ k a := by
  unfold onPt at h
  split at h
  · obtain ⟨a, rfl, h⟩ := onP_some h; exact ⟨a, rfl, h⟩
  · exact h.elim
theorem exLs_one {f : TypeId → (List Value → Prop) → Prop} (hf : ∀ t (C : List Value → Prop), f t C → ∃ l, C l ∧ ∀ C' : List Value → Prop, C' l → f t C') : ∀ {ts : List TypeId} {C : List Value → Prop}, exLs f ts C → ∃ l, C l ∧ ∀ C' : List Value → Prop, C' l → exLs f ts C'
  | [], C, h => ⟨_, h, fun _ h => h⟩
  | t :: r, C, h => by
    obtain ⟨l, h, h1⟩ := hf _ _ h
    obtain ⟨l', h, h2⟩ := exLs_one hf h
    exact ⟨_, h, fun C' hc => h1 _ (h2 _ hc)⟩
theorem exC_one {P : Program} : ∀ (n : Nat) (T : TypeId) (C : List Value → Prop), exC P n T C → ∃ l, C l ∧ ∀ C' : List Value → Prop, C' l → exC P n T C'
  | 0, T, C, ⟨l, h⟩ => ⟨l, h, fun C' h => ⟨l, h⟩⟩
  | n + 1, T, C, h => by
    simp only [exC] at h ⊢
    generalize P.underlying T = u at h ⊢
    rcases u with _ | d
    rotate_left
    cases d
    all_goals first
      | (obtain ⟨x, y, z, h⟩ := h; exact ⟨_, h, fun C' h => ⟨x, y, z, h⟩⟩)
      | (obtain ⟨x, h⟩ := h; exact ⟨_, h, fun C' h => ⟨x, h⟩⟩)
      | exact exLs_one (exC_one n) h
theorem exV_one {P : Program} {T : TypeId} {C : Value → Prop} (h : exV P T C) : ∃ v, C v ∧ ∀ C' : Value → Prop, C' v → exV P T C' := by
  simp only [exV] at h ⊢
  split at h <;> obtain ⟨l, h, h1⟩ := exC_one _ _ _ h
  · exact ⟨_, h, fun C' h => h1 _ h⟩
  · exact ⟨_, h, fun C' h => h1 _ h⟩
  · match l, h with
    | [v], h => exact ⟨v, h, fun C' h => h1 _ h⟩
theorem exVs_one {P : Program} : ∀ {ts : List TypeId} {C : List Value → Prop}, exVs P ts C → ∃ l, C l ∧ ∀ C' : List Value → Prop, C' l → exVs P ts C'
  | [], C, h => ⟨_, h, fun _ h => h⟩
  | t :: r, C, h => by
    obtain ⟨v, h, h1⟩ := exV_one h
    obtain ⟨l, h, h2⟩ := exVs_one h
    exact ⟨_, h, fun C' hc => h1 _ (h2 _ hc)⟩
theorem exT_one {P : Program} {T : TypeId} {C : Value → Prop} (h : exT P T C) : ∃ v, C v ∧ ∀ C' : Value → Prop, C' v → exT P T C' := by
  simp only [exT] at h ⊢
  split at h
  · obtain ⟨l, h, h1⟩ := exVs_one h; exact ⟨_, h, fun C' h => h1 _ h⟩
  · exact exV_one h
theorem exT_some {P : Program} {T : TypeId} {C : Value → Prop} (h : exT P T C) : ∃ v, C v := (exT_one h).imp fun _ h => h.1
theorem exT_mono {P : Program} {T : TypeId} {C C' : Value → Prop} (hc : ∀ v, C v → C' v) (h : exT P T C) : exT P T C' :=
  (exT_one h).elim fun v h => h.2 _ (hc v h.1)
theorem exTw_one {wr : Option Bool} {P : Program} {T : TypeId} {C : Value → Prop} (h : exTw wr P T C) : ∃ v, C v ∧ ∀ C' : Value → Prop, C' v → exTw wr P T C' := by
  cases wr with
  | some _ => exact exT_one h
  | none => obtain ⟨v, h⟩ := h; exact ⟨v, h, fun _ h => ⟨v, h⟩⟩
theorem exVw_one {wr : Option Bool} {P : Program} {T : TypeId} {C : Value → Prop} (h : exVw wr P T C) : ∃ v, C v ∧ ∀ C' : Value → Prop, C' v → exVw wr P T C' := by
  cases wr with
  | some _ => exact exV_one h
  | none => obtain ⟨v, h⟩ := h; exact ⟨v, h, fun _ h => ⟨v, h⟩⟩
theorem exTw_some {wr : Option Bool} {P : Program} {T : TypeId} {C : Value → Prop} (h : exTw wr P T C) : ∃ v, C v := (exTw_one h).imp fun _ h => h.1
theorem exTw_mono {wr : Option Bool} {P : Program} {T : TypeId} {C C' : Value → Prop} (hc : ∀ v, C v → C' v) (h : exTw wr P T C) : exTw wr P T C' :=
  (exTw_one h).elim fun v h => h.2 _ (hc v h.1)
theorem exO_one {wr : Option Bool} {P : Program} {T : Option TypeId} {C : Value → Prop} (h : exO wr P T C) : ∃ v, C v ∧ ∀ C' : Value → Prop, C' v → exO wr P T C' := by
  cases T with
  | none => obtain ⟨v, h⟩ := h; exact ⟨v, h, fun _ h => ⟨v, h⟩⟩
  | some t => exact exTw_one h
theorem wrap_inR {k : IntKind} {z : Int} (h : inR k z) : k.wrap z = z := by
  cases k <;> simp [inR, IntKind.min, IntKind.max, IntKind.signed, IntKind.bits] at h
  · exact IntWalk.i8_in _ (by omega)
  · exact IntWalk.i16_in _ (by omega)
  · exact IntWalk.i32_in _ (by omega)
  · exact IntWalk.i64_in _ (by omega)
  · exact IntWalk.u8_in _ (by omega)
  · exact IntWalk.u16_in _ (by omega)
  · exact IntWalk.u32_in _ (by omega)
  · exact IntWalk.u64_in _ (by omega)
theorem arith_one {wr : Option Bool} {k : IntKind} {z : Int} {K : Value → Prop} (h : arith wr k z K) : K (.int k (k.wrap z)) ∧ ∀ K' : Value → Prop, K' (.int k (k.wrap z)) → arith wr k z K' := by
  rcases wr with _ | _ | _
  · exact ⟨h, fun K' h => h⟩
  · obtain ⟨h1, h2⟩ := h; rw [wrap_inR h1]; exact ⟨h2, fun K' h => ⟨h1, h⟩⟩
  · exact ⟨h, fun K' h => h⟩
theorem toList_eq (a b : ByteArray) : (a.toList == b.toList) = decide (a = b) := by
  rw [ByteArray.toList_eq, ByteArray.toList_eq, Bool.eq_iff_iff]
  simp only [beq_iff_eq, decide_eq_true_eq]
  constructor
  · intro h
    cases a; cases b
    simp
    exact Array.toList_inj.1 h
  · rintro rfl; rfl
theorem over_cons (x : Value) (r : List Value) : ∀ (n : Nat) (cs : List Value), n < cs.length → over (x :: r) n cs = over r (n + 1) (cs.set n x) := by
  intro n cs h
  induction cs generalizing n with
  | nil => simp at h
  | cons c cs ih =>
    cases n with
    | zero =>
      simp
      cases r <;> simp [over]
    | succ n =>
      simp only [over, List.set_cons_succ]
      rw [ih n (by simpa using h)]
      cases r with
      | nil => simp [over]
      | cons y r => simp [over]
theorem over_nil : ∀ (n : Nat) (cs : List Value), over [] n cs = cs
  | 0, _ => by simp [over]
  | n + 1, _ => by simp [over]
theorem over_length (l : List Value) : ∀ (n : Nat) (cs : List Value), n + l.length ≤ cs.length → (over l n cs).length = cs.length := by
  induction l with
  | nil => intro n cs _; rw [over_nil]
  | cons x r ih =>
    intro n cs h
    simp at h
    rw [over_cons x r n cs (by omega), ih _ _ (by simp; omega)]
    simp
theorem foldl_over (off : Nat) : ∀ (l : List Value) (j : Nat) (cells : Array Value), off + j + l.length ≤ cells.size →
    ((l.zipIdx j).foldl (fun cs (p : Value × Nat) => cs.setIfInBounds (off + p.2) p.1) cells).toList = over l (off + j) cells.toList
  | [], j, cells, h => by simp [over_nil]
  | x :: r, j, cells, h => by
    simp at h
    simp
    rw [foldl_over off r (j + 1) _ (by simp; omega), over_cons x r _ _ (by simp; omega)]
    simp
    congr 1
theorem fill_sound (place : Nat → Option (Nat × Nat)) : ∀ (ps : List (Nat × Value)) (cs l : List Value), fillL place ps cs = some l → Instr.fill place cs.toArray ps = some l.toArray
  | [], cs, l, h => by simp [fillL] at h; simp [Instr.fill, h]
  | (i, v) :: r, cs, l, h => by
    simp only [fillL] at h
    simp only [Instr.fill]
    cases hp : place i with
    | none => simp [hp] at h
    | some p =>
      obtain ⟨off, size⟩ := p
      simp only [hp] at h ⊢
      split at h
      · cases h
      · rename_i hc
        have hc' : (decide (v.cells.size ≠ size) || decide (off + v.cells.size > cs.toArray.size)) = false := by simpa using hc
        simp at hc'
        rw [if_neg (by simpa using hc)]
        have e := foldl_over off v.cells.toList 0 cs.toArray (by have := hc'.2; simp at this ⊢; omega)
        have e2 : (v.cells.zipIdx.foldl (fun cs (p : Value × Nat) => cs.setIfInBounds (off + p.2) p.1) cs.toArray) = (over v.cells.toList off cs).toArray := by
          apply Array.toList_inj.1
          rw [← Array.foldl_toList, Array.toList_zipIdx]
          simpa using e
        have := fill_sound place r _ l h
        rw [← e2] at this
        exact this
theorem run_sizes {P : Program} {w : World} : ∀ {fs : List Field} {pl : List (Nat × Nat)}, sizesOf P fs = some pl →
    (fs.mapM (m := Sem) fun f => do pure (f.offset, ← sizeOf f.type)).run P w = .ok pl w
  | [], pl, h => by simp [sizesOf] at h; subst h; rfl
  | f :: r, pl, h => by
    simp only [sizesOf] at h
    split at h
    · rename_i i hi
      split at h
      · rename_i l hl
        cases h
        have := run_sizes (w := w) hl
        have hs : (sizeOf f.type).run P w = .ok i.size w := by simp [sizeOf, typeInfo, hi]
        simp only [List.mapM_cons, Sem.run_bind, Sem.run_map, hs, this, Result.andThen_ok, Sem.run_pure]
      · cases h
    · cases h
theorem force_one : ∀ {l : List Value} {k : List Value → Prop}, force l k ↔ k l
  | [], k => Iff.rfl
  | x :: r, k => force_one (k := fun r' => k (x :: r'))
theorem forceB_one {b : Bool} {l : List Value} {k : List Value → Prop} : forceB b l k ↔ k l := by
  cases b
  · exact force_one
  · exact Iff.rfl
theorem zl_of {P : Program} {t : TypeId} {z : Value} (h : zeroOf P t = some z) : zl P t = z.cells.toList := by simp [zl, h]
theorem bigL_of {P : Program} {t : TypeId} {ps : List (Nat × Value)} {cs : List Value} (h : buildL P t ps = some cs) : bigL P t ps = cs := by simp [bigL, h]
theorem run_zero {P : Program} {t : TypeId} {z : Value} (h : zeroOf P t = some z) (w : World) : (zeroValue t).run P w = .ok z w := by
  simp only [zeroOf] at h
  split at h
  · rename_i i hi
    simp [zeroValue, typeInfo, hi, h]
  · cases h
theorem run_size {P : Program} {t : TypeId} {n : Nat} (h : sizeV P t = some n) (w : World) : (sizeOf t).run P w = .ok n w := by
  simp only [sizeV] at h
  split at h
  · rename_i i hi
    cases h
    simp [sizeOf, typeInfo, hi]
  · cases h
theorem run_und {P : Program} {t : TypeId} {d : TypeDesc} (h : P.underlying t = some d) (w : World) : (underlying t).run P w = .ok d w := by
  simp [underlying, h]
theorem build_sound {P : Program} {t : TypeId} {ps : List (Nat × Value)} {l : List Value} (h : buildL P t ps = some l) (w : World) :
    (Instr.build t ps.toArray).run P w = .ok (.agg l.toArray) w := by
  simp only [buildL] at h
  split at h
  · cases h
  · rename_i z hz
    split at h
    · rename_i fs hu
      split at h
      · rename_i pl hpl
        have e := fill_sound _ _ _ _ h
        have e1 : (z.cells.toList).toArray = z.cells := by simp
        rw [e1] at e
        have e2 : (fun i : Nat => pl[i]?) = (fun i : Nat => (pl.toArray)[i]?) := by funext i; simp
        rw [e2] at e
        simp only [Instr.build, Sem.run_bind, run_zero hz, run_und hu, Result.andThen_ok, Sem.run_pure]
        rw [Array.mapM_eq_mapM_toList]
        simp only [Sem.run_map, run_sizes hpl, Result.andThen_ok]
        rw [e]
        simp
      · cases h
    · rename_i n e hu
      split at h
      · rename_i sz hsz
        have e := fill_sound _ _ _ _ h
        have e1 : (z.cells.toList).toArray = z.cells := by simp
        rw [e1] at e
        simp [Instr.build, run_zero hz, run_und hu, run_size hsz, e]
      · cases h
    · cases h
def IsI (v : Option Value) (i : Option Int) : Prop := ∃ kd, v = i.map (Value.int kd)
theorem opI_one {fr : Fr} {nt : Nat} {ds : List Deferred} {x : Option Operand} {k : Option Int → Prop} (h : opI fr x k) :
    ∃ i, k i ∧ (∀ k' : Option Int → Prop, k' i → opI fr x k') ∧ ∀ (a : Act), Ref nt ds fr a → IsI (x.map a.eval) i := by
  cases x with
  | none => exact ⟨none, h, fun _ h => h, fun a hr => ⟨.i64, rfl⟩⟩
  | some o =>
    simp only [opI] at h ⊢
    split at h
    · rename_i kd i he
      exact ⟨some i, h, fun k' h' => h', fun a hr => ⟨kd, by simp [hr.ev he]⟩⟩
    · exact h.elim
theorem run_bound {P : Program} {w : World} {kd : IntKind} {i : Int} {y : Nat} {c : BoundsCode} (h : 0 ≤ i ∧ i ≤ y) : (Instr.sliceBound (.int kd i) y c).run P w = .ok i.toNat w := by
  simp [Instr.sliceBound, asIntOf, h]
theorem slA_zero (a : Option Addr) (m size : Nat) : (if m = 0 then a else a.map (·.add (0 * size))) = a := by
  split
  · rfl
  · cases a <;> simp [Addr.add]
theorem slc_one {P : Program} {a : Option Addr} {n c size : Nat} {lo hi mx : Option Int} {K : Value → Prop} (h : slcV a n c size lo hi mx K) :
    ∃ v, K v ∧ (∀ K' : Value → Prop, K' v → slcV a n c size lo hi mx K') ∧ ∀ (isS : Bool) (vl vh vm : Option Value), IsI vl lo → IsI vh hi → IsI vm mx → ∀ w, ∃ l h m,
      (Instr.sliceBounds isS n c vl vh vm).run P w = .ok (l, h, m) w ∧ v = .slice (if m = l then a else a.map (·.add (l * size))) (h - l) (m - l) := by
  cases mx <;> cases hi <;> cases lo <;> simp only [slcV] at h ⊢ <;> first
    | exact h.elim
    | (obtain ⟨hc, h⟩ := h; refine ⟨_, h, fun _ k => ⟨hc, k⟩, ?_⟩)
    | refine ⟨_, h, fun _ k => k, ?_⟩
  all_goals
    rintro isS _ _ _ ⟨_, rfl⟩ ⟨_, rfl⟩ ⟨_, rfl⟩ w
    refine ⟨_, _, _, by simp (disch := omega) only [Instr.sliceBounds, run_bound, Option.map_some, Option.map_none, Sem.run_bind, Result.andThen_ok, Sem.run_pure]; rfl, ?_⟩
    first
      | rfl
      | (rw [slA_zero]; simp)
theorem slice_one {P : Program} {nt : Nat} {ds : List Deferred} {fr : Fr} {t : TypeId} {x : Value} {lo hi mx : Option Operand} {K : Value → Prop} (h : sliceV P fr t x lo hi mx K) :
    ∃ v, K v ∧ (∀ K' : Value → Prop, K' v → sliceV P fr t x lo hi mx K') ∧ ∀ a, Ref nt ds fr a → ∀ w, (Instr.sliceAt t x (lo.map a.eval) (hi.map a.eval) (mx.map a.eval)).run P w = .ok v w := by
  simp only [sliceV] at h ⊢
  obtain ⟨l, ha, e1, g1⟩ := opI_one (nt := nt) (ds := ds) h
  clear h
  obtain ⟨hh, hb, e2, g2⟩ := opI_one (nt := nt) (ds := ds) ha
  obtain ⟨m, h, e3, g3⟩ := opI_one (nt := nt) (ds := ds) hb
  have back : ∀ {v : Value}, (∀ K' : Value → Prop, K' v → slxV P t x l hh m K') → ∀ K' : Value → Prop, K' v → sliceV P fr t x lo hi mx K' := fun hb K' hk => e1 _ (e2 _ (e3 _ (hb K' hk)))
  simp only [slxV] at h back
  split at h
  · rename_i s hu
    cases m <;> cases hh <;> cases l <;> first
      | exact h.elim
      | (obtain ⟨hc, h⟩ := h; refine ⟨_, h, back (fun _ h => by simp only [hu]; exact ⟨hc, h⟩), fun a hr w => ?_⟩)
      | refine ⟨_, h, back (fun _ h => by simp only [hu]; exact h), fun a hr w => ?_⟩
    all_goals
      obtain ⟨_, h1⟩ := g1 a hr
      obtain ⟨_, h2⟩ := g2 a hr
      obtain ⟨_, h3⟩ := g3 a hr
      rw [h1, h2, h3]
      simp (disch := omega) [Instr.sliceAt, run_und hu, Instr.slice, Instr.sliceBounds, run_bound]
  · rename_i e ad n c hu
    split at h
    · rename_i size hs
      obtain ⟨v, hv, hk, hrun⟩ := slc_one (P := P) h
      refine ⟨v, hv, back (fun _ h => by simp only [hu, hs]; exact hk _ h), fun a hr w => ?_⟩
      obtain ⟨l', h', m', hb, rfl⟩ := hrun true _ _ _ (g1 a hr) (g2 a hr) (g3 a hr) w
      simp [Instr.sliceAt, run_und hu, Instr.slice, hb, run_size hs]
    · exact h.elim
  · rename_i n e p hu
    split at h
    · rename_i size hs
      obtain ⟨ad, rfl, h⟩ := onP_some h
      obtain ⟨v, hv, hk, hrun⟩ := slc_one (P := P) h
      refine ⟨v, hv, back (fun _ h => by simp only [hu, hs]; exact hk _ h), fun a hr w => ?_⟩
      obtain ⟨l', h', m', hb, rfl⟩ := hrun false _ _ _ (g1 a hr) (g2 a hr) (g3 a hr) w
      simp [Instr.sliceAt, run_und hu, Instr.sureAddr, hb, run_size hs]
      split <;> rfl
    · exact h.elim
  · exact h.elim
theorem eqGuard_int {P : Program} {op : BinOp} {t : TypeId} {x y : Operand} {k k' : IntKind} {a b : Int} (w : World) : (eqGuard op t x y (.int k a) (.int k' b)).run P w = .ok () w := by unfold eqGuard; split <;> rfl
theorem eqGuard_str {P : Program} {op : BinOp} {t : TypeId} {x y : Operand} {a b : ByteArray} (w : World) : (eqGuard op t x y (.string a) (.string b)).run P w = .ok () w := by unfold eqGuard; split <;> rfl
theorem eqGuard_bool {P : Program} {op : BinOp} {t : TypeId} {x y : Operand} {a b : Bool} (w : World) : (eqGuard op t x y (.bool a) (.bool b)).run P w = .ok () w := by unfold eqGuard; split <;> rfl
theorem equalIn_bool {P : Program} {t : TypeId} {a b : Bool} (h : P.underlying t = some .bool) (d : Nat) (w : World) : (Op.equalIn (d + 1) t (.bool a) (.bool b)).run P w = .ok (a == b) w := by
  simp [Op.equalIn, run_und h]
theorem equal_bool {P : Program} {t : TypeId} {a b : Bool} (h : P.underlying t = some .bool) (w : World) : (Op.equal t (.bool a) (.bool b)).run P w = .ok (a == b) w :=
  equalIn_bool h 9999 w
theorem data_eq (a b : ByteArray) : (a.data.toList == b.data.toList) = decide (a = b) := by
  have := toList_eq a b
  rwa [ByteArray.toList_eq, ByteArray.toList_eq] at this
theorem beq_dec (a b : Int) : (a == b) = decide (a = b) := rfl
theorem bne_dec (a b : Int) : (a != b) = !decide (a = b) := rfl
theorem bin_one {wr : Option Bool} {P : Program} {op : BinOp} {t : TypeId} {a b : Value} {K : Value → Prop} (h : binV wr P op t a b K) :
    ∃ v, K v ∧ (∀ K' : Value → Prop, K' v → binV wr P op t a b K') ∧ ∀ (x y : Operand) (w : World), (do eqGuard op t x y a b; binOp op t a b : Sem Value).run P w = .ok v w := by
  cases a with
  | int k a =>
    cases b with
    | int k' b =>
      have e : ∀ {v : Value} (x y : Operand) (w : World), (binOp op t (.int k a) (.int k' b)).run P w = .ok v w → (do eqGuard op t x y (.int k a) (.int k' b); binOp op t (.int k a) (.int k' b) : Sem Value).run P w = .ok v w := by
        intro v x y w hb
        simp only [Sem.run_bind, eqGuard_int, Result.andThen_ok, hb]
      cases op
      case' shl | shr =>
        simp only [binV] at h ⊢
        obtain ⟨h0, h⟩ := h
        have h1 := Int.not_lt.2 h0
      case shl =>
        obtain ⟨h, hb⟩ := arith_one h
        exact ⟨_, h, fun K' hK => ⟨h0, hb _ hK⟩, fun x y w => e x y w (by simp [binOp, Op.shift, h1])⟩
      case shr => exact ⟨_, h, fun K' hK => ⟨h0, hK⟩, fun x y w => e x y w (by simp [binOp, Op.shift, h1])⟩
      all_goals
        by_cases hk : k = k'
        · subst hk
          simp only [binV, if_true] at h ⊢
          first
            | exact h.elim
            | (obtain ⟨h, hb⟩ := arith_one h; exact ⟨_, h, hb, fun x y w => e x y w (by simp [binOp, Op.intArith])⟩)
            | (obtain ⟨h0, h⟩ := h; obtain ⟨h, hb⟩ := arith_one h; exact ⟨_, h, fun K' hK => ⟨h0, hb _ hK⟩, fun x y w => e x y w (by simp [binOp, Op.intDiv, h0])⟩)
            | (obtain ⟨h0, h⟩ := h; exact ⟨_, h, fun K' hK => ⟨h0, hK⟩, fun x y w => e x y w (by simp [binOp, Op.intDiv, h0])⟩)
            | exact ⟨_, h, fun _ h => h, fun x y w => e x y w (by simp [binOp, Op.intBits, bits, Op.intCmp, bne_dec, beq_dec])⟩
        · simp [binV, hk] at h
    | _ => cases op <;> exact h.elim
  | string a =>
    cases b with
    | string b =>
      cases op <;> simp only [binV] at h ⊢ <;> first
        | exact h.elim
        | (obtain ⟨h0, h⟩ := h
           refine ⟨_, h, fun K' hK => ⟨h0, hK⟩, fun x y w => ?_⟩
           have hm : IntKind.i64.max = 9223372036854775807 := by decide
           simp only [Sem.run_bind, eqGuard_str, Result.andThen_ok, binOp, Op.stringOp, hm]
           rw [if_neg (by omega)]
           rfl)
        | exact ⟨_, h, fun _ h => h, fun x y w => by simp only [Sem.run_bind, eqGuard_str, Result.andThen_ok, binOp, Op.stringOp, ByteArray.toList_eq, data_eq, Sem.run_pure]⟩
    | _ => cases op <;> exact h.elim
  | bool a =>
    cases b with
    | bool b =>
      cases op <;> simp only [binV] at h ⊢ <;> first
        | exact h.elim
        | (split at h
           · rename_i hu
             exact ⟨_, h, fun K' hK => hK, fun x y w => by simp only [Sem.run_bind, eqGuard_bool, Result.andThen_ok, binOp, equal_bool hu, Sem.run_pure]⟩
           · exact h.elim)
    | _ => cases op <;> exact h.elim
  | _ => cases op <;> exact h.elim
theorem un_one {wr : Option Bool} {P : Program} {op : UnOp} {a : Value} {K : Value → Prop} (h : unV wr op a K) :
    ∃ v, K v ∧ (∀ K' : Value → Prop, K' v → unV wr op a K') ∧ ∀ (w : World), (Op.unary op a).run P w = .ok v w := by
  cases op <;> cases a <;> simp only [unV] at h <;> try exact h.elim
  · obtain ⟨h, hb⟩ := arith_one h
    exact ⟨_, h, fun K' hK => hb _ hK, fun w => rfl⟩
  · exact ⟨_, h, fun K' hK => hK, fun w => rfl⟩
  · exact ⟨_, h, fun K' hK => hK, fun w => rfl⟩
theorem part_one {P : Program} {t : TypeId} {cs : List Value} {off : Nat} {K : Value → Prop} (h : partV P t cs off K) :
    ∃ v, K v ∧ (∀ K' : Value → Prop, K' v → partV P t cs off K') ∧ ∀ (w : World), (part t cs.toArray off).run P w = .ok v w := by
  have agg : ∀ (n : Nat) (w : World), sizeV P t = some n → (isAgg t).run P w = .ok true w → (part t cs.toArray off).run P w = .ok (.agg ((cs.drop off).take n).toArray) w := by
    intro n w hs hi
    simp only [part, Sem.run_bind, hi, Result.andThen_ok, if_true, run_size hs, Sem.run_pure]
    congr 2
    apply Array.toList_inj.1
    simp [Array.toList_extract, List.drop_take]
  simp only [partV] at h ⊢
  split at h
  · rename_i fs hu
    split at h
    · rename_i n hs
      rw [force_one] at h
      exact ⟨_, h, fun K' hK => by simp only [hs, force_one]; exact hK, fun w => agg n w hs (by simp [isAgg, run_und hu])⟩
    · exact h.elim
  · rename_i n e hu
    split at h
    · rename_i n hs
      rw [force_one] at h
      exact ⟨_, h, fun K' hK => by simp only [hs, force_one]; exact hK, fun w => agg n w hs (by simp [isAgg, run_und hu])⟩
    · exact h.elim
  · rename_i d h1 h2 hu
    split at h
    · rename_i v hv
      refine ⟨v, h, fun K' hK => hK, fun w => ?_⟩
      have hi : (isAgg t).run P w = .ok false w := by
        simp only [isAgg, Sem.run_bind, run_und hu, Result.andThen_ok]
        cases d <;> simp_all
      simp only [part, Sem.run_bind, hi, Result.andThen_ok, Bool.false_eq_true, if_false]
      have : cs.toArray[off]? = some v := by simpa using hv
      simp [this]
    · exact h.elim
  · exact h.elim
end Go.Vc
namespace Go.Vc
open Go
theorem run_val {P : Program} {s : Sem Value} {v : Value} {w w1 : World} (h : s.run P w = .ok v w1) : (do pure (Next.value (← s)) : Sem Next).run P w = .ok (.value v) w1 := by
  simp only [Sem.run_map, Sem.run_bind, h, Result.andThen_ok, Sem.run_pure]
theorem run_unit {P : Program} {s : Sem Unit} {w w1 : World} (h : s.run P w = .ok () w1) : (do s; pure Next.skip : Sem Next).run P w = .ok .skip w1 := by
  simp only [Sem.run_bind, h, Result.andThen_ok, Sem.run_pure]
section
variable {nt : Nat} {ds : List Deferred} {fr : Fr} {P : Program} {ops : List Oper}
theorem run_builtin {a : Act} (hr : Ref nt ds fr a) {c : Call} {b : Builtin} {args : List Value} (hc : c.callee = .builtin b) (ha : evs fr c.args.toList = some args) (t : TypeId) (w : World) :
    ∃ cs, (do let d ← resolve a.eval c t; invoke d.target d.args : Sem Next).run P w = (builtin b c.argTypes t cs args.toArray).run P w := by
  refine ⟨c.args.map fun | .const _ => true | _ => false, ?_⟩
  simp only [resolve, hc, Sem.run_bind, Sem.run_pure, Result.andThen_ok, invoke, hr.evsA ha]
  rfl
theorem evs_one {x : Operand} {v : Value} (h : ev fr x = some v) : evs fr [x] = some [v] := by simp [evs, h]
theorem evs_two {x y : Operand} {v u : Value} (h : ev fr x = some v) (h' : ev fr y = some u) : evs fr [x, y] = some [v, u] := by simp [evs, h, h']
theorem run_parts {a : Act} (hr : Ref nt ds fr a) {xs : Array (Nat × Operand)} {ps : List (Nat × Value)} (h : partsOf fr xs.toList = some ps) : (xs.map fun (i, x) => (i, a.eval x)) = ps.toArray := by
  have := hr.parts h
  apply Array.toList_inj.1
  simpa using this
theorem len_one {ts : Array TypeId} {x : Value} {K : Value → Prop} (h : lenV P ts x K) :
    ∃ v, K v ∧ (∀ K' : Value → Prop, K' v → lenV P ts x K') ∧ ∀ (t : TypeId) (w : World), (Builtin.len_ ts t #[x]).run P w = .ok v w := by
  simp only [lenV] at h ⊢
  split at h
  · exact h.elim
  · rename_i t ht
    split at h
    · rename_i s hu
      refine ⟨_, h, fun K' hK => hK, fun t' w => ?_⟩
      simp only [Builtin.len_, ht, List.getElem?_toArray, List.getElem?_cons_zero, Sem.run_bind, run_und hu, Result.andThen_ok]; rfl
    · rename_i e a n c hu
      refine ⟨_, h, fun K' hK => hK, fun t' w => ?_⟩
      simp only [Builtin.len_, ht, List.getElem?_toArray, List.getElem?_cons_zero, Sem.run_bind, run_und hu, Result.andThen_ok]; rfl
    · rename_i n e hu
      refine ⟨_, h, fun K' hK => hK, fun t' w => ?_⟩
      simp only [Builtin.len_, ht, List.getElem?_toArray, List.getElem?_cons_zero, Sem.run_bind, run_und hu, Result.andThen_ok]; rfl
    · rename_i e hu
      split at h
      · rename_i n e' hu'
        refine ⟨_, h, fun K' hK => by first | exact hK | (simp; exact hK), fun t' w => ?_⟩
        simp only [Builtin.len_, ht, List.getElem?_toArray, List.getElem?_cons_zero, Sem.run_bind, run_und hu, run_und hu', Result.andThen_ok]; rfl
      · exact h.elim
    · exact h.elim
theorem cap_one {ts : Array TypeId} {x : Value} {K : Value → Prop} (h : capV P ts x K) :
    ∃ v, K v ∧ (∀ K' : Value → Prop, K' v → capV P ts x K') ∧ ∀ (t : TypeId) (w : World), (Builtin.cap_ ts t #[x]).run P w = .ok v w := by
  simp only [capV] at h ⊢
  split at h
  · exact h.elim
  · rename_i t ht
    split at h
    · rename_i e a n c hu
      refine ⟨_, h, fun K' hK => hK, fun t' w => ?_⟩
      simp only [Builtin.cap_, ht, List.getElem?_toArray, List.getElem?_cons_zero, Sem.run_bind, run_und hu, Result.andThen_ok]; rfl
    · rename_i n e hu
      refine ⟨_, h, fun K' hK => hK, fun t' w => ?_⟩
      simp only [Builtin.cap_, ht, List.getElem?_toArray, List.getElem?_cons_zero, Sem.run_bind, run_und hu, Result.andThen_ok]; rfl
    · exact h.elim
theorem pure_one {wr : Option Bool} {o : Oper} {K : Value → Prop} (h : pureV wr P fr o K) :
    ∃ v, K v ∧ (∀ K' : Value → Prop, K' v → pureV wr P fr o K') ∧ ∀ a, Ref nt ds fr a → ∀ w, (execOp a.eval o).run P w = .ok (.value v) w := by
  cases hop : o.op <;> simp only [pureV, hop] at h ⊢ <;> try exact h.elim
  case move x =>
    obtain ⟨v, hv, h⟩ := onV_some h
    exact ⟨v, h, fun K' hK => by rw [hv]; exact hK, fun a hr w => by simp only [execOp, hop, hr.ev hv]; rfl⟩
  case assign x =>
    obtain ⟨v, hv, h⟩ := onV_some h
    exact ⟨v, h, fun K' hK => by rw [hv]; exact hK, fun a hr w => by simp only [execOp, hop, hr.ev hv]; rfl⟩
  case pick c x y =>
    split at h
    · rename_i t hc
      cases t with
      | true =>
        obtain ⟨v, hv, h⟩ := onV_some h
        exact ⟨v, h, fun K' hK => by simp only [hv]; exact hK, fun a hr w => by simp only [execOp, hop, hr.ev hc, hr.ev hv, asBool]; rfl⟩
      | false =>
        obtain ⟨v, hv, h⟩ := onV_some h
        exact ⟨v, h, fun K' hK => by simp only [hv]; exact hK, fun a hr w => by simp only [execOp, hop, hr.ev hc, hr.ev hv, asBool]; rfl⟩
    · exact h.elim
  case build t parts =>
    split at h
    · rename_i ps hps
      split at h
      · rename_i cs hcs
        rw [forceB_one, bigL_of hcs] at h
        refine ⟨_, h, fun K' hK => by simp only [hcs, forceB_one, bigL_of hcs]; exact hK, fun a hr w => ?_⟩
        simp only [execOp, hop, run_parts hr hps]
        exact run_val (build_sound hcs w)
      · exact h.elim
    · exact h.elim
  case nilCheck x =>
    split at h
    · rename_i p hv
      obtain ⟨ad, rfl, h⟩ := onP_some h
      exact ⟨_, h, fun K' hK => hK, fun a hr w => by simp only [execOp, hop, hr.ev hv]; rfl⟩
    · rename_i f fi ca hv
      exact ⟨_, h, fun K' hK => hK, fun a hr w => by simp only [execOp, hop, hr.ev hv]; rfl⟩
    · rename_i t v hv
      exact ⟨_, h, fun K' hK => hK, fun a hr w => by simp only [execOp, hop, hr.ev hv]; rfl⟩
    · exact h.elim
  case binOp op t x y yt =>
    obtain ⟨u, hx, h⟩ := onV_some h
    obtain ⟨u', hy, h⟩ := onV_some h
    obtain ⟨v, h, hb, hrun⟩ := bin_one h
    exact ⟨v, h, fun K' hK => by simp only [hx, hy]; exact hb _ hK, fun a hr w => by
      simp only [execOp, hop, hr.ev hx, hr.ev hy]
      exact run_val (hrun x y w)⟩
  case unOp op t x =>
    obtain ⟨u, hx, h⟩ := onV_some h
    obtain ⟨v, h, hb, hrun⟩ := un_one h
    exact ⟨v, h, fun K' hK => by simp only [hx]; exact hb _ hK, fun a hr w => by
      simp only [execOp, hop, hr.ev hx]
      exact run_val (hrun w)⟩
  case convert src dst x =>
    split at h
    · rename_i k0 k k1 n hs hd hx
      exact ⟨_, h, fun K' hK => hK, fun a hr w => by
        simp only [execOp, hop, hr.ev hx]
        exact run_val (by simp only [convert, Sem.run_bind, run_und hs, run_und hd, Result.andThen_ok]; rfl)⟩
    · rename_i s hs hd hx
      exact ⟨_, h, fun K' hK => hK, fun a hr w => by
        simp only [execOp, hop, hr.ev hx]
        exact run_val (by simp only [convert, Sem.run_bind, run_und hs, run_und hd, Result.andThen_ok]; rfl)⟩
    · exact h.elim
  case makeInterface t x =>
    split at h
    · exact h.elim
    · rename_i d hd hu
      obtain ⟨v, hv, h⟩ := onV_some h
      exact ⟨_, h, fun K' hK => by rw [hv]; exact hK, fun a hr w => by
        simp only [execOp, hop, hr.ev hv]
        exact run_val (by
          simp only [Instr.makeInterface, Sem.run_bind, run_und hu, Result.andThen_ok]
          cases d <;> first | rfl | simp_all)⟩
    · exact h.elim
  case makeFunc fn first captured =>
    split at h
    · rename_i fi ca h1 h2
      exact ⟨_, h, fun K' hK => hK, fun a hr w => by
        simp only [execOp, hop, hr.evsA h1, hr.evsA h2]
        exact run_val rfl⟩
    · exact h.elim
  case slice t x lo hi mx =>
    obtain ⟨u, hx, h⟩ := onV_some h
    obtain ⟨v, h, hb, hrun⟩ := slice_one (nt := nt) (ds := ds) h
    exact ⟨v, h, fun K' hK => by simp only [hx]; exact hb _ hK, fun a hr w => by
      simp only [execOp, hop, hr.ev hx]
      exact run_val (hrun a hr w)⟩
  case fieldAddr s x f =>
    split at h
    · rename_i fs p hu hx
      split at h
      · rename_i fd hf
        split at h
        · rename_i n hs
          obtain ⟨ad, rfl, h⟩ := onP_some h
          exact ⟨_, h, fun K' hK => by first | exact hK | (simp only [hs]; exact hK), fun a hr w => by
            simp only [execOp, hop, hr.ev hx]
            exact run_val (by simp [Instr.fieldAt, run_und hu, hf, Instr.sureAddr, fieldPlace, run_size hs])⟩
        · exact h.elim
      · exact h.elim
    · exact h.elim
  case field t x f =>
    split at h
    · rename_i fs cs hu hx
      split at h
      · rename_i fd hf
        obtain ⟨v, h, hb, hrun⟩ := part_one h
        exact ⟨v, h, fun K' hK => hb _ hK, fun a hr w => by
          simp only [execOp, hop, hr.ev hx]
          refine run_val ?_
          have := hrun w
          simp only [Array.toArray_toList] at this
          simp [Instr.field, run_und hu, hf, asAgg, this]⟩
      · exact h.elim
    · exact h.elim
  case indexAddr t x ix =>
    split at h
    · rename_i e p n c kd i hu hx hi
      split at h
      · rename_i sz hs
        obtain ⟨ad, rfl, h01, h⟩ := onP_some h
        exact ⟨_, h, fun K' hK => ⟨h01, hK⟩, fun a hr w => by
          simp only [execOp, hop, hr.ev hx, hr.ev hi]
          exact run_val (by simp [Instr.indexAt, asIntOf, run_und hu, h01, run_size hs])⟩
      · exact h.elim
    · rename_i n e p kd i hu hx hi
      split at h
      · rename_i sz hs
        obtain ⟨ad, rfl, h01, h⟩ := onP_some h
        exact ⟨_, h, fun K' hK => ⟨h01, hK⟩, fun a hr w => by
          simp only [execOp, hop, hr.ev hx, hr.ev hi]
          exact run_val (by simp [Instr.indexAt, asIntOf, run_und hu, h01, run_size hs, Instr.sureAddr])⟩
      · exact h.elim
    · exact h.elim
  case index t x ix =>
    split at h
    · rename_i s kd i hu hx hi
      obtain ⟨h01, h⟩ := h
      exact ⟨_, h, fun K' hK => ⟨h01, hK⟩, fun a hr w => by
        simp only [execOp, hop, hr.ev hx, hr.ev hi]
        refine run_val ?_
        have hl : i.toNat < s.size := by omega
        have h2 : s[i.toNat]? = some s[i.toNat] := getElem?_pos s i.toNat hl
        have h3 : sb s i = (s[i.toNat].toNat : Int) := by
          simp only [sb]
          have : s.data.toList[i.toNat]? = some s[i.toNat] := by
            rw [Array.getElem?_toList, Array.getElem?_eq_getElem (by simpa using hl)]; rfl
          rw [this]; rfl
        simp [Instr.index, asIntOf, run_und hu, h01.1, h2, h3]⟩
    · rename_i n e cs kd i hu hx hi
      split at h
      · rename_i sz hs
        obtain ⟨h01, h⟩ := h
        obtain ⟨v, ⟨hp, h⟩, hb⟩ := exVw_one h
        exact ⟨v, h, fun K' hK => ⟨h01, hb _ ⟨hp, hK⟩⟩, fun a hr w => by
          simp only [execOp, hop, hr.ev hx, hr.ev hi]
          refine run_val ?_
          have hp := hp w
          simp only [Array.toArray_toList] at hp
          simp [Instr.index, asIntOf, run_und hu, h01, run_size hs, hp]⟩
      · exact h.elim
    · exact h.elim
  case extract x i =>
    split at h
    · rename_i vs hx
      split at h
      · rename_i v hv
        exact ⟨v, h, fun K' hK => hK, fun a hr w => by
          simp only [execOp, hop, hr.ev hx]
          exact run_val (by simp [Instr.extract, hv])⟩
      · exact h.elim
    · exact h.elim
  case call c =>
    split at h
    · rename_i x hc hx
      obtain ⟨u, hu, h⟩ := onV_some h
      obtain ⟨v, h, hb, hrun⟩ := len_one h
      exact ⟨v, h, fun K' hK => by simp only [hu]; exact hb _ hK, fun a hr w => by
        simp only [execOp, hop]
        obtain ⟨cs, e⟩ := run_builtin (P := P) hr hc (by rw [hx]; exact evs_one hu) o.type w
        rw [e]
        exact run_val (hrun _ w)⟩
    · rename_i x hc hx
      obtain ⟨u, hu, h⟩ := onV_some h
      obtain ⟨v, h, hb, hrun⟩ := cap_one h
      exact ⟨v, h, fun K' hK => by simp only [hu]; exact hb _ hK, fun a hr w => by
        simp only [execOp, hop]
        obtain ⟨cs, e⟩ := run_builtin (P := P) hr hc (by rw [hx]; exact evs_one hu) o.type w
        rw [e]
        exact run_val (hrun _ w)⟩
    · rename_i x y hc hx
      split at h
      · rename_i k i k' j h1 h2
        exact ⟨_, h, fun K' hK => hK, fun a hr w => by
          simp only [execOp, hop]
          obtain ⟨cs, e⟩ := run_builtin (P := P) hr hc (by rw [hx]; exact evs_two h1 h2) o.type w
          rw [e]
          refine run_val ?_
          simp [Builtin.min_, Builtin.min2]
          omega⟩
      · exact h.elim
    · rename_i x y hc hx
      split at h
      · rename_i k i k' j h1 h2
        exact ⟨_, h, fun K' hK => hK, fun a hr w => by
          simp only [execOp, hop]
          obtain ⟨cs, e⟩ := run_builtin (P := P) hr hc (by rw [hx]; exact evs_two h1 h2) o.type w
          rw [e]
          refine run_val ?_
          simp [Builtin.max_, Builtin.max2]
          omega⟩
      · exact h.elim
    · exact h.elim
theorem read_run {o : Oper} {w : World} {v : Value} (h : readV P fr o w v) {a : Act} (hr : Ref nt ds fr a) : (execOp a.eval o).run P w = .ok (.value v) w := by
  cases hop : o.op <;> simp only [readV, hop] at h <;> try exact h.elim
  case load t x =>
    split at h
    · rename_i p hx
      obtain ⟨ad, rfl, h⟩ := onP_some h
      simp only [execOp, hop, hr.ev hx]
      refine run_val ?_
      have h' : (loadVar t ad).run P w = .ok v w := h
      simp [Instr.loadAt, Instr.sureAddr, h']
    · exact h.elim
  case lookup t x k ok =>
    obtain ⟨m, hm, h⟩ := onV_some h
    obtain ⟨k, hk, h⟩ := onV_some h
    simp only [execOp, hop, hr.ev hm, hr.ev hk]
    exact run_val h
  case binOp op t x y yt =>
    obtain ⟨u, hx, h⟩ := onV_some h
    obtain ⟨u', hy, h⟩ := onV_some h
    split at h
    · simp only [execOp, hop, hr.ev hx, hr.ev hy]
      exact run_val h
    · exact h.elim
  case convert src dst x =>
    obtain ⟨u, hx, h⟩ := onV_some h
    simp only [execOp, hop, hr.ev hx]
    exact run_val h
  case typeAssert x xT t ok =>
    obtain ⟨u, hx, h⟩ := onV_some h
    simp only [execOp, hop, hr.ev hx]
    exact run_val h
  case call c =>
    split at h
    · rename_i x hc hx
      obtain ⟨u, hu, h⟩ := onV_some h
      simp only [execOp, hop]
      obtain ⟨cs, e⟩ := run_builtin (P := P) hr hc (by rw [hx]; exact evs_one hu) o.type w
      rw [e]
      exact run_val h
    · exact h.elim
def NoNum (P : Program) : Prop := ∀ (f : FuncId) (fn : Func), P.funcs[f]? = some fn → (fn.name == "runtime.NumGoroutine") = false
theorem W_fn (rd : Option Nat) (f : FuncId) : (W rd).fn f := trivial
theorem W_depth (rd : Option Nat) : (W rd).depth = none := rfl
theorem callsIn_W {rd : Option Nat} {n : Nat} {f : FuncId} {args : Array Value} {w : World} {R : Ending → World → Prop} (h : Calls P f args w R) : CallsIn (W rd) n P f args w R :=
  (callsIn_wide (n := n)).2 h
theorem call_run {f : FuncId} {fn : Func} {c : Code} {args : Array Value} {w : World} (hN : NoNum P) (hf : P.funcs[f]? = some fn) (hb : fn.body = some c) : (callFunc f args).run P w = .ok (.enter f args) w := by
  have h1 := hN f fn hf
  simp only [callFunc, Sem.run_bind, run_program, Result.andThen_ok, hf]
  rw [if_neg (by simpa using h1)]
  simp [hb]
theorem arr_nil {a : Array Value} (h : a.toList = []) : a = #[] := by apply Array.toList_inj.1; simpa using h
theorem build_slice_sound {t e : TypeId} {len : Nat} {ps : List (Nat × Value)} {l : List Value} (h : buildSL P t len ps = some (e, l)) (w : World) :
    (Instr.buildSlice t len ps.toArray).run P w = .ok (.slice (some ⟨w.heap.size, 0, none⟩) len len) (w.alloc (.cells l.toArray e)) := by
  simp only [buildSL] at h
  split at h
  · rename_i e' hu
    split at h
    · rename_i i hi
      split at h
      · rename_i z hz
        split at h
        · cases h
        · rename_i hc
          simp at hc
          obtain ⟨⟨hc1, hc2⟩, hc3⟩ := hc
          split at h
          · rename_i l' hl
            cases h
            have hzero : (zeroValue e).run P w = .ok z w := by simp [zeroValue, typeInfo, hi, hz]
            have hsize : (sizeOf e).run P w = .ok i.size w := by simp [sizeOf, typeInfo, hi]
            have hf := fill_sound _ _ _ _ hl
            have hrep : ∀ n, repL z.cells.toList n = ((Array.range (n * i.size)).map (z.cells[· % z.cells.size]!)).toList := by
              intro n
              induction n with
              | zero => simp [repL]
              | succ n ih =>
                have e1 : repL z.cells.toList (n + 1) = repL z.cells.toList n ++ z.cells.toList := by
                  clear ih
                  induction n with
                  | zero => simp [repL]
                  | succ n ih =>
                    show z.cells.toList ++ repL z.cells.toList (n + 1) = (z.cells.toList ++ repL z.cells.toList n) ++ z.cells.toList
                    rw [ih, List.append_assoc]
                rw [e1, ih]
                rw [show (n + 1) * i.size = n * i.size + i.size from Nat.succ_mul n i.size]
                apply List.ext_getElem?
                intro k
                simp only [Array.toList_map, Array.toList_range, List.getElem?_append, List.length_map, List.length_range, List.getElem?_map]
                by_cases hk : k < n * i.size
                · rw [if_pos hk, List.getElem?_range hk, List.getElem?_range (by omega)]
                · rw [if_neg hk]
                  by_cases hk2 : k < n * i.size + i.size
                  · rw [List.getElem?_range hk2]
                    have hm : k % z.cells.size = k - n * i.size := by
                      rw [hc1, Nat.mod_eq_sub_mul_div]
                      have : k / i.size = n := by
                        apply Nat.div_eq_of_lt_le
                        · omega
                        · rw [Nat.succ_mul]; omega
                      rw [this, Nat.mul_comm]
                    have hlt : k - n * i.size < z.cells.size := by omega
                    simp only [Option.map_some, hm]
                    rw [getElem!_pos z.cells _ hlt]
                    simp [hlt]
                  · rw [List.getElem?_eq_none (by simp; omega), List.getElem?_eq_none (by simp; omega)]
                    rfl
            rw [hrep] at hf
            simp only [Array.toArray_toList] at hf
            simp only [Instr.buildSlice, Sem.run_bind, run_und hu, Result.andThen_ok, hsize]
            rw [if_neg (by omega)]
            by_cases h0 : len * i.size = 0
            · have hlen : len = 0 := (Nat.mul_eq_zero.1 h0).resolve_right hc2
              subst hlen
              have em : ∀ f : Nat → Value, Array.map f (Array.range 0) = #[] := fun f => by apply Array.toList_inj.1; simp
              simp only [Nat.zero_mul, if_true, Sem.run_bind, Sem.run_pure, Result.andThen_ok, em] at hf ⊢
              rw [hf]
              rfl
            · simp only [if_neg h0, Sem.run_bind, Sem.run_map, Sem.run_pure, hzero, Result.andThen_ok]
              rw [hf]
              rfl
          · cases h
      · cases h
    · cases h
  · cases h
theorem eff_upon {wr : Option Bool} {rd : Option Nat} {n : Nat} (hN : NoNum P) {o : Oper} {w : World} {K : Option Value → World → Prop} (h : effV wr P ops fr o w K) {a : Act} (hr : Ref nt ds fr a)
    {next : Act → World → Prop} {Q : Exit → Act → World → Prop} (hK : ∀ rv w', K rv w' → ∀ v : Value, (∀ u, rv = some u → v = u) → next (a.put o.dst v) w') :
    o.uponIn (W rd) n P a next Q ((execOp a.eval o).run P w) ∧ ∀ c, o.op ≠ .defer c := by
  have val : ∀ {s : Sem Value} {v : Value} {w1 : World}, s.run P w = .ok v w1 → K (some v) w1 → o.uponIn (W rd) n P a next Q ((do pure (Next.value (← s)) : Sem Next).run P w) := by
    intro s v w1 hs hk
    rw [run_val hs]
    exact hK _ _ hk _ (fun u hu => by cases hu; rfl)
  have uni : ∀ {s : Sem Unit} {w1 : World}, s.run P w = .ok () w1 → K none w1 → o.uponIn (W rd) n P a next Q ((do s; pure Next.skip : Sem Next).run P w) := by
    intro s w1 hs hk
    rw [run_unit hs]
    exact hK _ _ hk _ (fun u hu => by cases hu)
  cases hop : o.op <;> simp only [effV, hop] at h <;> try exact h.elim
  all_goals
    refine ⟨?_, fun c hc => by cases hc⟩
    simp only [execOp, hop]
  case alloc t =>
    obtain ⟨z, hz, h⟩ := onO_some h
    rw [forceB_one, zl_of hz] at h
    exact val (w1 := w.alloc (.cells z.cells t)) (by simp only [Instr.alloc, Sem.run_bind, run_zero hz, Result.andThen_ok]; rfl) (h _ _ ⟨rfl, by simp⟩)
  case box t x =>
    obtain ⟨v, hv, h⟩ := onV_some h
    rw [forceB_one] at h
    simp only [hr.ev hv]
    exact val (w1 := w.alloc (.cells v.cells t)) rfl (h _ _ ⟨rfl, by simp⟩)
  case buildSlice t len parts =>
    obtain ⟨ps, hps, h⟩ := onO_some h
    obtain ⟨⟨e, cs⟩, hcs, h⟩ := onO_some h
    rw [forceB_one] at h
    simp only [run_parts hr hps]
    exact val (build_slice_sound hcs w) (h _ _ ⟨rfl, rfl⟩)
  case store t x y =>
    obtain ⟨ad, hx, h⟩ := onPt_some h
    obtain ⟨v, hy, w1, h1, h⟩ := onV_some h
    simp only [hr.ev hx, hr.ev hy]
    exact uni (by have h1' : (storeVar t ad v).run P w = .ok () w1 := h1; simp [Instr.storeAt, Instr.sureAddr, h1']) h
  case convert src dst x =>
    obtain ⟨v, hv, ad, l, c, w1, h1, h⟩ := onV_some h
    simp only [hr.ev hv]
    exact val h1 h
  case makeSlice t l c =>
    obtain ⟨l, hl, h⟩ := onV_some h
    obtain ⟨c, hc, ad, n', m, w1, h1, h⟩ := onV_some h
    simp only [hr.ev hl, hr.ev hc]
    exact val h1 h
  case makeMap t r =>
    cases r with
    | none => exact val (v := .map (some w.heap.size)) (w1 := w.alloc (.map #[] 0)) rfl (h _ _ ⟨rfl, rfl⟩)
    | some x => exact h.elim
  case mapUpdate t m k x | insert t m k x | entryStore t m k x =>
    obtain ⟨m, hm, h⟩ := onV_some h
    obtain ⟨k, hk, h⟩ := onV_some h
    obtain ⟨v, hv, w1, h1, h⟩ := onV_some h
    simp only [hr.ev hm, hr.ev hk, hr.ev hv]
    exact uni h1 h
  case mapEntry t m k =>
    obtain ⟨m, hm, h⟩ := onV_some h
    obtain ⟨k, hk, v, i, w1, h1, h⟩ := onV_some h
    simp only [hr.ev hm, hr.ev hk]
    exact val h1 h
  case range t x =>
    obtain ⟨v, hv, p, w1, h1, h⟩ := onV_some h
    simp only [hr.ev hv]
    exact val h1 h
  case next it isS =>
    obtain ⟨v, hv, h⟩ := onV_some h
    simp only [hr.ev hv]
    rcases h with ⟨w1, h1, h⟩ | ⟨k, v, w1, h1, h⟩ <;> exact val h1 h
  case entry it =>
    obtain ⟨v, hv, h⟩ := onV_some h
    obtain ⟨k, h, -⟩ := exO_one h
    obtain ⟨u, ⟨w1, h1, h⟩, -⟩ := exO_one h
    simp only [hr.ev hv]
    exact val h1 h
  case call c =>
    obtain ⟨args, hargs, h⟩ := onO_some h
    have bi : ∀ {b : Builtin} {v : Value} {w1 : World}, c.callee = .builtin b → (∀ cs, (builtin b c.argTypes o.type cs args.toArray).run P w = .ok (.value v) w1) → K (some v) w1 → o.uponIn (W rd) n P a next Q ((do let d ← resolve a.eval c o.type; invoke d.target d.args : Sem Next).run P w) := by
      intro b v w1 hc hb hk
      obtain ⟨cs, e⟩ := run_builtin (P := P) hr hc hargs o.type w
      rw [e, hb cs]
      exact hK _ _ hk _ (fun u hu => by cases hu; rfl)
    cases hc : c.callee <;> simp only [hc] at h <;> try exact h.elim
    case builtin b =>
      unfold biE at h
      split at h
      · obtain ⟨ad, n', m, w1, h1, h⟩ := h; exact bi hc (fun _ => run_val h1) h
      · obtain ⟨n', w1, h1, h⟩ := h; exact bi hc (fun _ => run_val h1) h
      · obtain ⟨w1, h1, h⟩ := h; exact bi hc (fun _ => run_val h1) h
      · obtain ⟨w1, h1, h⟩ := h; exact bi hc (fun _ => run_val h1) h
      · exact h.elim
    case value f =>
      obtain ⟨fv, hf, h⟩ := onV_some h
      unfold callXF CallX at h
      have iv : ∀ {g : Fn} {fi ca : Array Value} {x : Next} {w1 : World}, fv = .func g fi ca → (invoke (.fn g ca) (fi ++ args.toArray)).run P w = .ok x w1 → (do let d ← resolve a.eval c o.type; invoke d.target d.args : Sem Next).run P w = .ok x w1 := by
        rintro g fi ca x w1 rfl hi
        simp only [resolve, hc, hr.ev hf, Deferred.ofValue, Sem.run_bind, Sem.run_pure, Result.andThen_ok, hr.evsA hargs, hi]
      split at h
      · rename_i g fi ca
        have ea : fi ++ args.toArray ++ ca = (fi.toList ++ args ++ ca.toList).toArray := by
          apply Array.toList_inj.1; simp
        split at h
        · rename_i fn hfn
          split at h
          · rename_i cd hb
            rw [iv rfl (by simp only [invoke, ea, call_run hN hfn hb]; rfl), Oper.uponIn_enter]
            refine ⟨fun hd => by simp [W_depth] at hd, (callsIn_W h.run).mono ?_⟩
            intro e w' he
            obtain ⟨v, rfl, hk⟩ := exTw_some he
            exact hK _ _ hk _ (fun u hu => by cases hu; rfl)
          · obtain ⟨v, w1, h1, he⟩ := h.run
            rw [iv rfl (by simp only [invoke, ea, h1]; rfl)]
            obtain ⟨v', hv', hk⟩ := exTw_some he
            cases hv'
            exact hK _ _ hk _ (fun u hu => by cases hu; rfl)
        · exact h.elim
      · rename_i l fi ca
        split at h
        · rename_i hfi hca
          obtain rfl := arr_nil hfi
          obtain rfl := arr_nil hca
          obtain ⟨fn', tm, as, bd, hy, hro⟩ := h.run rd (n - 1)
          rw [iv rfl (by simp only [invoke, Array.empty_append, hy]; rfl), Oper.uponIn_round]
          refine ⟨fun hd => by simp [W_depth] at hd, hro.mono ?_⟩
          intro e w' he
          obtain ⟨v, rfl, hk⟩ := exTw_some he
          exact hK _ _ hk _ (fun u hu => by cases hu; rfl)
        · exact h.elim
      · exact h.elim
end
end Go.Vc
namespace Go.Vc
open Go
theorem again_out {bef : Nat → Nat → Bool} {j : Nat} : ∀ {p : Past} {w : World} {X : Prop}, again bef j p w X → X
  | [], w, X, h => h
  | (i, f) :: p, w, X, h => by
    simp only [again] at h
    split at h
    · exact again_out h
    · exact again_out h.2
theorem again_iff {bef : Nat → Nat → Bool} {j : Nat} : ∀ {p : Past} {w : World} {X : Prop}, again bef j p w X ↔ (∀ x ∈ p, bef x.1 j = false → x.2 w) ∧ X
  | [], w, X => by simp [again]
  | (i, f) :: p, w, X => by
    simp only [again]
    split
    · rename_i hb
      rw [again_iff]
      simp [hb]
    · rename_i hb
      rw [again_iff]
      simp [hb, and_assoc]
theorem spl_iff {sp : Bool} {v : Value} {K : Value → Prop} : spl sp v K ↔ K v := by
  unfold spl
  split
  · rename_i b
    cases b <;> simp [br]
  · rfl
section
variable {wr : Option Bool} {P : Program} {bef : Nat → Nat → Bool} {ops : List Oper} {nt : Nat} {ds : List Deferred} {fr : Fr} {rd : Option Nat} {n : Nat}
theorem pure_defer {o : Oper} {K : Value → Prop} (h : pureV wr P fr o K) : ∀ c, o.op ≠ .defer c := by
  intro c hc; simp [pureV, hc] at h
theorem read_defer {o : Oper} {w : World} {v : Value} (h : readV P fr o w v) : ∀ c, o.op ≠ .defer c := by
  intro c hc; simp [readV, hc] at h
theorem exec_upon (hN : NoNum P) {i : Nat} {o : Oper} {w : World} {past : Past} {K : Option Value → World → Past → Prop} (h : execV wr P bef ops i o fr w past K) {a : Act} (hr : Ref nt ds fr a)
    {next : Act → World → Prop} {Q : Exit → Act → World → Prop} (hK : ∀ rv w' past', K rv w' past' → ∀ v : Value, (∀ u, rv = some u → v = u) → next (a.put o.dst v) w') :
    o.wpIn (W rd) n P a w next Q := by
  refine ⟨fun f _ => trivial, ?_⟩
  have go : ∀ (hd : ∀ c, o.op ≠ .defer c), o.uponIn (W rd) n P a next Q ((execOp a.eval o).run P w) → o.uponIn (W rd) n P a next Q ((o.semAt (W rd).round a.eval).run P w) := fun hd h => by
    rw [Oper.semAt_eq _ _ _ hd]; exact h
  unfold execV at h
  split at h
  · have hd := pure_defer h
    obtain ⟨v, h, -, hrun⟩ := pure_one (nt := nt) (ds := ds) h
    refine go hd ?_
    rw [hrun a hr w]
    exact hK _ _ _ (spl_iff.1 h) v (fun u hu => by cases hu; rfl)
  · obtain ⟨v, hv, h⟩ := exTw_some h
    refine go (read_defer hv) ?_
    rw [read_run hv hr]
    exact hK _ _ _ (spl_iff.1 h) v (fun u hu => by cases hu; rfl)
  · obtain ⟨h, hd⟩ := eff_upon (rd := rd) (next := next) hN h hr (fun rv w' hk v hv => by
      have := again_out hk
      split at this
      · exact hK _ _ _ (spl_iff.1 this) v hv
      · exact hK _ _ _ this v hv)
    exact go hd h
theorem wanted_none {o : Oper} (h : o.guard = none) (y : Nat → Option Bool) : Region.wanted o y = true := by simp [Region.wanted, h]
theorem yielded_of {opsA : Array Oper} {a : Act} (hr : Ref nt ds fr a) {j s : Nat} {b : Bool} (hs : slotOf opsA.toList j = some s) (hf : fget fr s = some (.bool b)) : yielded opsA a.tmps j = some b := by
  have hv := hr.val s _ hf
  unfold slotOf at hs
  split at hs
  · rename_i o ho
    have ho' : opsA[j]? = some o := by simpa using ho
    simp [yielded, ho', hs, hv]
  · cases hs
theorem yielded_not {opsA : Array Oper} {a : Act} (hr : Ref nt ds fr a) {j s : Nat} {vs : Array Value} (hs : slotOf opsA.toList j = some s) (hf : fget fr s = some (.tuple vs)) : yielded opsA a.tmps j = none := by
  have hv := hr.val s _ hf
  unfold slotOf at hs
  split at hs
  · rename_i o ho
    have ho' : opsA[j]? = some o := by simpa using ho
    simp [yielded, ho', hs, hv]
  · cases hs
theorem step_upon (hN : NoNum P) {opsA : Array Oper} {Q : Exit → Act → World → Prop} {i : Nat} {o : Oper} {rest : List Nat} {w : World} {past : Past} {K : Option Value → World → Past → Prop} (ho : opsA.toList[i]? = some o)
    (h : stepD wr P bef opsA.toList i o fr w past K) {a : Act} (hr : Ref nt ds fr a)
    (hK : ∀ rv w' past', K rv w' past' → ∀ v : Value, (∀ u, rv = some u → v = u) → wpOpsIn (W rd) n P opsA Q rest (a.put o.dst v) w') :
    wpOpsIn (W rd) n P opsA Q (i :: rest) a w := by
  have ho' : opsA[i]? = some o := by simpa using ho
  simp only [wpOpsIn, ho']
  unfold stepD at h
  split at h
  · rename_i hg
    rw [if_pos (wanted_none hg _)]
    exact exec_upon hN h hr hK
  · rename_i j want hg
    split at h
    · exact h.elim
    · rename_i s hs
      split at h
      · rename_i b hf
        have hy := yielded_of hr hs hf
        have hw : Region.wanted o (yielded opsA a.tmps) = (b == want) := by
          simp [Region.wanted, hg, hy]
        rw [hw]
        split at h
        · exact exec_upon hN h hr hK
        · exact exec_upon hN h hr hK
        · rename_i h1 h2
          have : (b == want) = false := by
            cases b <;> cases want <;> simp_all
          rw [this, if_neg (by simp)]
          exact ⟨fun f _ => trivial, hK _ _ _ h undef (fun u hu => by cases hu; rfl)⟩
      · rename_i vs hf
        have hw : Region.wanted o (yielded opsA a.tmps) = false := by
          simp [Region.wanted, hg, yielded_not hr hs hf]
        rw [hw, if_neg (by simp)]
        exact ⟨fun f _ => trivial, hK _ _ _ h undef (fun u hu => by cases hu; rfl)⟩
      · exact h.elim
theorem run_upon (hN : NoNum P) {opsA : Array Oper} {Q : Exit → Act → World → Prop} {K : Fr → World → Prop} (hQ : ∀ fr w a, K fr w → Ref nt ds fr a → Q .normal a w) :
    ∀ (σ : List Nat) (fr : Fr) (w : World) (past : Past) (a : Act), runV wr P nt bef opsA.toList K σ fr w past → Ref nt ds fr a → wpOpsIn (W rd) n P opsA Q σ a w
  | [], fr, w, past, a, h, hr => hQ _ _ _ h hr
  | i :: r, fr, w, past, a, h, hr => by
    simp only [runV] at h
    split at h
    · exact h.elim
    · rename_i o ho
      refine step_upon hN ho h hr fun rv w' past' hk v hv => ?_
      obtain ⟨fr', hk, hr'⟩ := hr.fput hv hk
      exact run_upon hN hQ r _ _ _ _ hk hr'
end
end Go.Vc
namespace Go.Vc
open Go
section
variable {wr : Option Bool} {P : Program} {ops : List Oper} {fr fr' : Fr}
theorem evs_congr : ∀ {l : List Operand}, (∀ x ∈ l, ev fr x = ev fr' x) → evs fr l = evs fr' l
  | [], _ => rfl
  | x :: r, h => by
    simp only [evs]
    rw [h x (by simp), evs_congr (fun y hy => h y (by simp [hy]))]
theorem parts_congr : ∀ {l : List (Nat × Operand)}, (∀ x ∈ l, ev fr x.2 = ev fr' x.2) → partsOf fr l = partsOf fr' l
  | [], _ => rfl
  | (i, x) :: r, h => by
    simp only [partsOf]
    rw [h (i, x) (by simp), parts_congr (fun y hy => h y (by simp [hy]))]
theorem opI_congr {x : Option Operand} (h : ∀ y ∈ x.toArray, ev fr y = ev fr' y) (k : Option Int → Prop) : opI fr x k = opI fr' x k := by
  cases x with
  | none => rfl
  | some o => simp only [opI]; rw [h o (by simp)]
theorem args_congr {c : Call} (h : ∀ x ∈ (Op.call c).operands, ev fr x = ev fr' x) : ∀ x ∈ c.args.toList, ev fr x = ev fr' x := fun x hx => h x (by simp [Op.operands, Call.operands]; exact .inr (by simpa using hx))
theorem pure_congr {o : Oper} (h : ∀ x ∈ o.op.operands, ev fr x = ev fr' x) (K : Value → Prop) : pureV wr P fr o K = pureV wr P fr' o K := by
  cases hop : o.op <;> simp only [pureV, hop] <;> rw [hop] at h
  case build t ps => rw [parts_congr (fun x hx => h x.2 (by simp [Op.operands]; exact ⟨x.1, Array.mem_toList_iff.1 hx⟩))]
  case makeFunc fn a b => rw [evs_congr (fun x hx => h x (by simp [Op.operands] at hx ⊢; exact .inl hx)), evs_congr (fun x hx => h x (by simp [Op.operands] at hx ⊢; exact .inr hx))]
  case slice t x lo hi mx =>
    have e : ∀ {y : Option Operand}, (∀ z ∈ y.toArray, z ∈ (Op.slice t x lo hi mx).operands) → ∀ k, opI fr y k = opI fr' y k := fun hy => opI_congr fun z hz => h z (hy z hz)
    rw [h x (by simp [Op.operands])]
    congr 1; funext v
    simp only [sliceV]
    rw [e (by simp +contextual [Op.operands])]
    congr 1; funext l
    rw [e (by simp +contextual [Op.operands])]
    congr 1; funext i
    rw [e (by simp +contextual [Op.operands])]
  case call c =>
    have hm := args_congr h
    split <;> first
      | rfl
      | (rename_i hx; rw [hx] at hm; simp at hm; simp only [hm])
  all_goals (simp [Op.operands] at h; simp only [h])
theorem read_congr {o : Oper} (h : ∀ x ∈ o.op.operands, ev fr x = ev fr' x) (w : World) (v : Value) : readV P fr o w v = readV P fr' o w v := by
  cases hop : o.op <;> simp only [readV, hop] <;> rw [hop] at h
  case call c =>
    have hm := args_congr h
    split <;> first
      | rfl
      | (rename_i hx; rw [hx] at hm; simp at hm; simp only [hm])
  all_goals (simp [Op.operands] at h; simp only [h])
theorem eff_congr {o : Oper} (h : ∀ x ∈ o.op.operands, ev fr x = ev fr' x) (w : World) (K : Option Value → World → Prop) : effV wr P ops fr o w K = effV wr P ops fr' o w K := by
  cases hop : o.op <;> simp only [effV, hop] <;> rw [hop] at h
  case buildSlice t n ps => rw [parts_congr (fun x hx => h x.2 (by simp [Op.operands]; exact ⟨x.1, Array.mem_toList_iff.1 hx⟩))]
  case makeMap t r => cases r <;> rfl
  case call c =>
    rw [evs_congr (args_congr h)]
    cases hc : c.callee with
    | value f => simp only [h f (by simp [Op.operands, Call.operands, hc])]
    | _ => rfl
  all_goals (simp [Op.operands] at h; simp only [h])
end
section
variable {P : Program} {ops : List Oper} {fr : Fr}
theorem callX_both {fv : Value} {args : List Value} {w : World} {R R' : Ending → World → Prop} (hr : ∀ e w', R e w' → R' e w') (h : CallX P fv args w R) : CallX P fv args w R' ∧ ∃ e w', R e w' := by
  unfold CallX at h ⊢
  split at h
  · split at h
    · split at h
      · obtain ⟨e, w', fr', h1, _⟩ := h.run []
        exact ⟨⟨Calls.mono h.run hr⟩, _, _, h1⟩
      · obtain ⟨v, w1, h1, h2⟩ := h.run
        exact ⟨⟨⟨v, w1, h1, hr _ _ h2⟩⟩, _, _, h2⟩
    · exact h.elim
  · split at h
    · refine ⟨⟨fun rd n => ?_⟩, ?_⟩
      · obtain ⟨fn, tm, as, bd, hy, hro⟩ := h.run rd n
        exact ⟨fn, tm, as, bd, hy, hro.mono hr⟩
      · obtain ⟨fn, tm, as, bd, hy, hro⟩ := h.run none 0
        obtain ⟨e, w', h, _⟩ := hro.2 default [] (by simp [Fence.room, W, Fence.wide])
        exact ⟨_, _, h⟩
    · exact h.elim
  · exact h.elim
theorem callX_mono {fv : Value} {args : List Value} {w : World} {R R' : Ending → World → Prop} (hr : ∀ e w', R e w' → R' e w') (h : CallX P fv args w R) : CallX P fv args w R' := (callX_both hr h).1
def Mn (F : (Option Value → World → Prop) → Prop) : Prop := ∀ K K' : Option Value → World → Prop, (∀ rv w, K rv w → K' rv w) → F K → F K' ∧ ∃ rv w, K rv w
theorem Mn.k {X : Prop} {v : Option Value} {w : World} : Mn fun K => X ∧ K v w := fun _ _ hk h => ⟨⟨h.1, hk _ _ h.2⟩, _, _, h.2⟩
theorem Mn.ex {α : Type} {F : α → (Option Value → World → Prop) → Prop} (h : ∀ x, Mn (F x)) : Mn fun K => ∃ x, F x K := fun K K' hk ⟨x, hx⟩ => ⟨⟨x, (h x K K' hk hx).1⟩, (h x K K' hk hx).2⟩
theorem Mn.or {F G : (Option Value → World → Prop) → Prop} (h : Mn F) (h' : Mn G) : Mn fun K => F K ∨ G K := fun K K' hk => Or.rec (fun x => ⟨.inl (h K K' hk x).1, (h K K' hk x).2⟩) fun x => ⟨.inr (h' K K' hk x).1, (h' K K' hk x).2⟩
theorem Mn.new {v : Nat → Option Value} {w : World} {o : Obj} : Mn fun K => ∀ b w1, New w o b w1 → K (v b) w1 := fun _ _ hk h => ⟨fun b w1 hn => hk _ _ (h b w1 hn), _, _, h _ _ ⟨rfl, rfl⟩⟩
theorem Mn.onO {α : Type} {x : Option α} {F : α → (Option Value → World → Prop) → Prop} (h : ∀ x, Mn (F x)) : Mn fun K => Vc.onO x fun v => F v K := by
  cases x with
  | none => exact fun _ _ _ h => h.elim
  | some v => exact h v
theorem Mn.onPt {x : Option Value} {F : Addr → (Option Value → World → Prop) → Prop} (h : ∀ x, Mn (F x)) : Mn fun K => Vc.onPt x fun v => F v K := by
  intro K K' hk hh
  obtain ⟨a, rfl, hh⟩ := onPt_some hh
  exact h a K K' hk hh
theorem Mn.exO {wr : Option Bool} {T : Option TypeId} {F : Value → (Option Value → World → Prop) → Prop} (h : ∀ x, Mn (F x)) : Mn fun K => Vc.exO wr P T fun v => F v K := by
  intro K K' hk hh
  obtain ⟨v, hh, hb⟩ := exO_one hh
  exact ⟨hb _ (h v K K' hk hh).1, (h v K K' hk hh).2⟩
theorem Mn.callXF {wr : Option Bool} {fv : Value} {args : List Value} {t : TypeId} {w : World} : Mn (callXF wr P fv args t w) := by
  intro K K' hk h
  obtain ⟨h1, e, w', h⟩ := callX_both (fun e w' h => exTw_mono (C' := fun v => e = .returned v ∧ K' (some v) w') (fun v h => ⟨h.1, hk _ _ h.2⟩) h) h
  obtain ⟨v, -, h⟩ := exTw_some h
  exact ⟨h1, _, _, h⟩
theorem eff_mn {wr : Option Bool} {o : Oper} {w : World} : Mn (effV wr P ops fr o w) := by
  show Mn fun K => effV wr P ops fr o w K
  cases hop : o.op <;> simp only [effV, hop] <;> try exact fun _ _ _ h => h.elim
  case makeMap t r =>
    cases r with
    | none => exact .new
    | some _ => exact fun _ _ _ h => h.elim
  case call c =>
    refine .onO fun args => ?_
    intro K K' hk h
    cases hc : c.callee <;> simp only [hc] at h ⊢ <;> try exact h.elim
    case value f => exact Mn.onO (fun _ => .callXF) K K' hk h
    case builtin b =>
      unfold biE at h ⊢
      split at h <;> first
        | exact h.elim
        | (obtain ⟨_, _, _, _, h1, h⟩ := h; exact ⟨⟨_, _, _, _, h1, hk _ _ h⟩, _, _, h⟩)
        | (obtain ⟨_, _, h1, h⟩ := h; exact ⟨⟨_, _, h1, hk _ _ h⟩, _, _, h⟩)
        | (obtain ⟨_, h1, h⟩ := h; exact ⟨⟨_, h1, hk _ _ h⟩, _, _, h⟩)
  all_goals
    try simp only [forceB_one]
    repeat' first
      | exact .new
      | exact .k
      | refine .onO fun _ => ?_
      | refine .onPt fun _ => ?_
      | refine .exO fun _ => ?_
      | refine .or ?_ ?_
      | refine .ex fun _ => ?_
theorem eff_mono {wr : Option Bool} {o : Oper} {w : World} {K K' : Option Value → World → Prop} (hk : ∀ rv w', K rv w' → K' rv w') (h : effV wr P ops fr o w K) : effV wr P ops fr o w K' := (eff_mn K K' hk h).1
theorem eff_some {wr : Option Bool} {o : Oper} {w : World} {K : Option Value → World → Prop} (h : effV wr P ops fr o w K) : ∃ rv w', K rv w' := (eff_mn K K (fun _ _ h => h) h).2
end
section
variable {wr : Option Bool} {P : Program} {bef : Nat → Nat → Bool} {ops : List Oper} {nt : Nat} {ds : List Deferred} {fr fr' : Fr}
def Agree (ops : List Oper) (o : Oper) (fr fr' : Fr) : Prop :=
  (∀ t ∈ opTs o.op, fget fr t = fget fr' t) ∧ ∀ j want s, o.guard = some (j, want) → slotOf ops j = some s → fget fr s = fget fr' s
theorem Agree.ev {o : Oper} (h : Agree ops o fr fr') : ∀ x ∈ o.op.operands, Vc.ev fr x = Vc.ev fr' x := by
  intro x hx
  cases x with
  | tmp t =>
    exact h.1 t (by simp only [opTs, List.mem_filterMap]; exact ⟨_, by simpa using hx, rfl⟩)
  | _ => rfl
theorem exec_congr {i : Nat} {o : Oper} (h : ∀ x ∈ o.op.operands, ev fr x = ev fr' x) (w : World) (past : Past) (K : Option Value → World → Past → Prop) :
    execV wr P bef ops i o fr w past K = execV wr P bef ops i o fr' w past K := by
  unfold execV
  split
  · exact pure_congr h _
  · congr 1; funext v
    rw [read_congr h w v]
    have : (fun w' => readV P fr o w' v) = (fun w' => readV P fr' o w' v) := funext fun w' => read_congr h w' v
    rw [this]
  · exact eff_congr h _ _
theorem step_congr {i : Nat} {o : Oper} (h : Agree ops o fr fr') (w : World) (past : Past) (K : Option Value → World → Past → Prop) :
    stepD wr P bef ops i o fr w past K = stepD wr P bef ops i o fr' w past K := by
  unfold stepD
  split
  · exact exec_congr h.ev _ _ _
  · rename_i j want hg
    cases hs : slotOf ops j with
    | none => rfl
    | some s =>
      simp only
      rw [h.2 j want s hg hs]
      split
      · split
        · exact exec_congr h.ev _ _ _
        · exact exec_congr h.ev _ _ _
        · rfl
      · rfl
      · rfl
theorem rv_iff {sp : Bool} {rv : Option Value} {K : Option Value → Prop} : (match rv with
    | some v => spl sp v fun v => K (some v)
    | none => K none) ↔ K rv := by
  cases rv with
  | none => rfl
  | some v => exact spl_iff
theorem exec_mono {i : Nat} {o : Oper} {w : World} {past past' : Past} {K K' : Option Value → World → Past → Prop} (hp : ∀ e ∈ past', e ∈ past)
    (hk : ∀ v w' p p', (∀ e ∈ p', e ∈ p) → K v w' p → K' v w' p') (h : execV wr P bef ops i o fr w past K) : execV wr P bef ops i o fr w past' K' := by
  unfold execV at h ⊢
  split at h
  · obtain ⟨v, h, hb, -⟩ := pure_one (nt := 0) (ds := []) h
    exact hb _ (spl_iff.2 (hk _ _ _ _ hp (spl_iff.1 h)))
  · exact exTw_mono (fun v h => ⟨h.1, spl_iff.2 (hk _ _ _ _ (fun e he => by
      simp at he ⊢
      exact he.imp id (hp e)) (spl_iff.1 h.2))⟩) h
  · refine eff_mono (fun rv w' h => ?_) h
    rw [again_iff] at h ⊢
    refine ⟨fun x hx hb => h.1 x (hp x hx) hb, ?_⟩
    have h2 := (rv_iff (K := fun rv => K rv w' past)).1 h.2
    exact (rv_iff (K := fun rv => K' rv w' past')).2 (hk _ _ _ _ hp h2)
theorem step_mono {i : Nat} {o : Oper} {w : World} {past past' : Past} {K K' : Option Value → World → Past → Prop} (hp : ∀ e ∈ past', e ∈ past)
    (hk : ∀ v w' p p', (∀ e ∈ p', e ∈ p) → K v w' p → K' v w' p') (h : stepD wr P bef ops i o fr w past K) : stepD wr P bef ops i o fr w past' K' := by
  unfold stepD at h ⊢
  split at h
  · exact exec_mono hp hk h
  · split at h
    · exact h.elim
    · split at h
      · split at h
        · exact exec_mono hp hk h
        · exact exec_mono hp hk h
        · exact hk _ _ _ _ hp h
      · exact hk _ _ _ _ hp h
      · exact h.elim
theorem step_cases {i : Nat} {o : Oper} {w : World} {past : Past} {K : Option Value → World → Past → Prop} {a : Act} (hr : Ref nt ds fr a) (h : stepD wr P bef ops i o fr w past K) :
    (∃ v, K v w past ∧ (∀ w' p (K' : Option Value → World → Past → Prop), K' v w' p → stepD wr P bef ops i o fr w' p K') ∧
      ∀ w' p (K' : Option Value → World → Past → Prop), stepD wr P bef ops i o fr w' p K' → K' v w' p) ∨
    (cls P o.op = 1 ∧ ∃ v, readV P fr o w v ∧ K (some v) w ((i, fun w' => readV P fr o w' v) :: past) ∧
      ∀ w' p (K' : Option Value → World → Past → Prop), readV P fr o w' v → K' (some v) w' ((i, fun w' => readV P fr o w' v) :: p) → stepD wr P bef ops i o fr w' p K') ∨
    (cls P o.op ≠ 0 ∧ cls P o.op ≠ 1 ∧ ∀ w' p (K' : Option Value → World → Past → Prop), stepD wr P bef ops i o fr w' p K' ↔ effV wr P ops fr o w' fun rv w'' => again bef i p w'' (K' rv w'' p)) := by
  have ex : (∀ w' p (K' : Option Value → World → Past → Prop), stepD wr P bef ops i o fr w' p K' = execV wr P bef ops i o fr w' p K') → execV wr P bef ops i o fr w past K →
      (∃ v, K v w past ∧ (∀ w' p (K' : Option Value → World → Past → Prop), K' v w' p → stepD wr P bef ops i o fr w' p K') ∧
      ∀ w' p (K' : Option Value → World → Past → Prop), stepD wr P bef ops i o fr w' p K' → K' v w' p) ∨
    (cls P o.op = 1 ∧ ∃ v, readV P fr o w v ∧ K (some v) w ((i, fun w' => readV P fr o w' v) :: past) ∧
      ∀ w' p (K' : Option Value → World → Past → Prop), readV P fr o w' v → K' (some v) w' ((i, fun w' => readV P fr o w' v) :: p) → stepD wr P bef ops i o fr w' p K') ∨
    (cls P o.op ≠ 0 ∧ cls P o.op ≠ 1 ∧ ∀ w' p (K' : Option Value → World → Past → Prop), stepD wr P bef ops i o fr w' p K' ↔ effV wr P ops fr o w' fun rv w'' => again bef i p w'' (K' rv w'' p)) := by
    intro e h
    simp only [e]
    unfold execV at h
    split at h
    · rename_i hc
      left
      obtain ⟨v, h, hb, hrun⟩ := pure_one (nt := nt) (ds := ds) h
      refine ⟨some v, spl_iff.1 h, fun w' p K' hk => ?_, fun w' p K' hk => ?_⟩
      · unfold execV; simp only [hc]; exact hb _ (spl_iff.2 hk)
      · unfold execV at hk; simp only [hc] at hk
        obtain ⟨v', h', -, hrun'⟩ := pure_one (nt := nt) (ds := ds) hk
        have e1 := hrun a hr w
        rw [hrun' a hr w] at e1
        cases e1
        exact spl_iff.1 h'
    · rename_i hc
      right; left
      obtain ⟨v, ⟨hv, h⟩, hb⟩ := exTw_one h
      refine ⟨hc, v, hv, spl_iff.1 h, fun w' p K' hv' hk => ?_⟩
      unfold execV; simp only [hc]
      exact hb _ ⟨hv', spl_iff.2 hk⟩
    · rename_i h0 h1
      right; right
      refine ⟨h0, h1, fun w' p K' => ?_⟩
      unfold execV
      split
      · exact absurd (by assumption) h0
      · exact absurd (by assumption) h1
      · constructor <;> refine eff_mono (fun rv w'' h => ?_)
        · rw [again_iff] at h ⊢
          exact ⟨h.1, (rv_iff (K := fun rv => K' rv w'' p)).1 h.2⟩
        · rw [again_iff] at h ⊢
          exact ⟨h.1, (rv_iff (K := fun rv => K' rv w'' p)).2 h.2⟩
  have h0 := h
  unfold stepD at h
  split at h
  · rename_i hg
    exact ex (fun w' p K' => by unfold stepD; simp only [hg]) h
  · rename_i j want hg
    split at h
    · exact h.elim
    · rename_i s hs
      split at h
      · rename_i b hf
        split at h
        · exact ex (fun w' p K' => by unfold stepD; simp only [hg, hs, hf]) h
        · exact ex (fun w' p K' => by unfold stepD; simp only [hg, hs, hf]) h
        · rename_i n1 n2
          left
          refine ⟨some (.tuple #[]), h, fun w' p K' hk => ?_, fun w' p K' hk => ?_⟩
          · unfold stepD; simp only [hg, hs, hf]
            cases b <;> cases want <;> first | exact absurd rfl (n1 rfl) | exact absurd rfl (n2 rfl) | exact hk
          · unfold stepD at hk; simp only [hg, hs, hf] at hk
            cases b <;> cases want <;> first | exact absurd rfl (n1 rfl) | exact absurd rfl (n2 rfl) | exact hk
      · rename_i vs hf
        left
        refine ⟨some (.tuple #[]), h, fun w' p K' hk => ?_, fun w' p K' hk => ?_⟩
        · unfold stepD; simp only [hg, hs, hf]; exact hk
        · unfold stepD at hk; simp only [hg, hs, hf] at hk; exact hk
      · exact h.elim
def put (fr : Fr) (d : Option Nat) (v : Option Value) : Fr := match d with
  | some d => (d, v) :: fr
  | none => fr
def Fits (nt : Nat) (d : Option Nat) : Prop := ∀ x, d = some x → x < nt
theorem fput_iff {d : Option Nat} {v : Option Value} {k : Fr → Prop} : fput nt fr d v k ↔ Fits nt d ∧ k (put fr d v) := by
  cases d with
  | none => simp [fput, put, Fits]
  | some d =>
    simp only [fput, put, Fits]
    split
    · rename_i hb
      have : d < nt := by simpa [Nat.blt_eq] using hb
      simp [this]
    · rename_i hb
      have : ¬ d < nt := fun hlt => by
        have h2 : Nat.blt d nt = true := by rw [Nat.blt_eq]; exact hlt
        rw [h2] at hb; cases hb
      simp [this]
theorem put_other {d : Option Nat} {v : Option Value} {t : Nat} (h : ∀ x, d = some x → t ≠ x) : fget (put fr d v) t = fget fr t := by
  cases d with
  | none => rfl
  | some d => exact fget_miss _ _ _ _ (h d rfl)
def Feq (fr fr' : Fr) : Prop := ∀ t, fget fr t = fget fr' t
theorem Feq.put {d : Option Nat} {v : Option Value} (h : Feq fr fr') : Feq (put fr d v) (put fr' d v) := by
  intro t
  cases d with
  | none => exact h t
  | some d =>
    by_cases ht : t = d
    · subst ht; simp only [Vc.put, fget_hit]
    · simp only [Vc.put, fget_miss _ _ _ _ ht]; exact h t
theorem put_swap {d d' : Option Nat} {v v' : Option Value} (h : ∀ x y, d = some x → d' = some y → x ≠ y) : Feq (put (put fr d v) d' v') (put (put fr d' v') d v) := by
  intro t
  cases d with
  | none => rfl
  | some d => cases d' with
    | none => rfl
    | some d' =>
      have := h d d' rfl rfl
      simp only [put]
      by_cases h1 : t = d
      · subst h1; rw [fget_miss _ _ _ _ this, fget_hit, fget_hit]
      · by_cases h2 : t = d'
        · subst h2; rw [fget_hit, fget_miss _ _ _ _ h1, fget_hit]
        · rw [fget_miss _ _ _ _ h2, fget_miss _ _ _ _ h1, fget_miss _ _ _ _ h1, fget_miss _ _ _ _ h2]
theorem Feq.agree {o : Oper} (h : Feq fr fr') : Agree ops o fr fr' := ⟨fun t _ => h t, fun j want s _ _ => h s⟩
structure Apart (ops : List Oper) (a b : Oper) : Prop where
  dst : ∀ x y, a.dst = some x → b.dst = some y → x ≠ y
  left : ∀ y, b.dst = some y → (∀ t ∈ opTs a.op, t ≠ y) ∧ ∀ k want s, a.guard = some (k, want) → slotOf ops k = some s → s ≠ y
  right : ∀ x, a.dst = some x → (∀ t ∈ opTs b.op, t ≠ x) ∧ ∀ k want s, b.guard = some (k, want) → slotOf ops k = some s → s ≠ x
theorem Apart.agreeL {a b : Oper} (h : Apart ops a b) (v : Option Value) : Agree ops a (put fr b.dst v) fr :=
  ⟨fun t ht => put_other fun y hy => (h.left y hy).1 t ht, fun k want s hg hs => put_other fun y hy => (h.left y hy).2 k want s hg hs⟩
theorem Apart.agreeR {a b : Oper} (h : Apart ops a b) (v : Option Value) : Agree ops b (put fr a.dst v) fr :=
  ⟨fun t ht => put_other fun y hy => (h.right y hy).1 t ht, fun k want s hg hs => put_other fun y hy => (h.right y hy).2 k want s hg hs⟩
theorem apart_of {i j : Nat} {a b : Oper} (ha : ops[i]? = some a) (hb : ops[j]? = some b) (h : apartB ops i j = true) : Apart ops a b := by
  have guard : ∀ {o : Oper} {x : Nat}, (match o.guard with
      | some (k, _) => match slotOf ops k with
        | some s => !(s == x)
        | none => true
      | none => true) = true → ∀ k want s, o.guard = some (k, want) → slotOf ops k = some s → s ≠ x := by
    intro o x h k want s hg hs
    simp only [hg, hs] at h
    simpa using h
  simp only [apartB, ha, hb] at h
  split at h
  · rename_i x y hx hy
    simp only [Bool.and_eq_true] at h
    obtain ⟨⟨⟨⟨h1, h2⟩, h3⟩, h4⟩, h5⟩ := h
    refine ⟨fun x' y' hx' hy' => ?_, fun y' hy' => ?_, fun x' hx' => ?_⟩
    · rw [hx] at hx'; rw [hy] at hy'; cases hx'; cases hy'; simpa using h1
    · rw [hy] at hy'; cases hy'
      exact ⟨fun t ht e => by subst e; simp at h2; exact h2 ht, guard h4⟩
    · rw [hx] at hx'; cases hx'
      exact ⟨fun t ht e => by subst e; simp at h3; exact h3 ht, guard h5⟩
  · rename_i x hx hy
    simp only [Bool.and_eq_true] at h
    obtain ⟨h3, h5⟩ := h
    refine ⟨fun x' y' hx' hy' => (by rw [hy] at hy'; cases hy'), fun y' hy' => (by rw [hy] at hy'; cases hy'), fun x' hx' => ?_⟩
    rw [hx] at hx'; cases hx'
    exact ⟨fun t ht e => by subst e; simp at h3; exact h3 ht, guard h5⟩
  · rename_i y hx hy
    simp only [Bool.and_eq_true] at h
    obtain ⟨h3, h5⟩ := h
    refine ⟨fun x' y' hx' hy' => (by rw [hx] at hx'; cases hx'), fun y' hy' => ?_, fun x' hx' => (by rw [hx] at hx'; cases hx')⟩
    rw [hy] at hy'; cases hy'
    exact ⟨fun t ht e => by subst e; simp at h3; exact h3 ht, guard h5⟩
  · rename_i hx hy
    refine ⟨fun x' y' hx' hy' => (by rw [hy] at hy'; cases hy'), fun y' hy' => (by rw [hy] at hy'; cases hy'), fun x' hx' => (by rw [hx] at hx'; cases hx')⟩
theorem turn {i x : Nat} {oi ox : Oper} {w : World} {past : Past} {a : Act} (hr : Ref nt ds fr a) (hap : Apart ops oi ox) (hb : bef i x = false)
    (hc : cls P oi.op = 0 ∨ cls P ox.op = 0 ∨ cls P oi.op = 1)
    {F : Fr → World → Past → Prop} (hF : ∀ f f' w p p', Feq f f' → (∀ e ∈ p', e ∈ p) → F f w p → F f' w p')
    (h : stepD wr P bef ops i oi fr w past fun vi w1 p1 => Fits nt oi.dst ∧ stepD wr P bef ops x ox (put fr oi.dst vi) w1 p1 fun vx w2 p2 => Fits nt ox.dst ∧ F (put (put fr oi.dst vi) ox.dst vx) w2 p2) :
    stepD wr P bef ops x ox fr w past fun vx w1 p1 => Fits nt ox.dst ∧ stepD wr P bef ops i oi (put fr ox.dst vx) w1 p1 fun vi w2 p2 => Fits nt oi.dst ∧ F (put (put fr ox.dst vx) oi.dst vi) w2 p2 := by
  have eR : ∀ vi w1 p1 K, stepD wr P bef ops x ox (put fr oi.dst vi) w1 p1 K = stepD wr P bef ops x ox fr w1 p1 K := fun vi w1 p1 K => step_congr (hap.agreeR vi) _ _ _
  have eL : ∀ vx w1 p1 K, stepD wr P bef ops i oi (put fr ox.dst vx) w1 p1 K = stepD wr P bef ops i oi fr w1 p1 K := fun vx w1 p1 K => step_congr (hap.agreeL vx) _ _ _
  simp only [eR] at h
  simp only [eL]
  have hsw : ∀ vi vx w p p', (∀ e ∈ p', e ∈ p) → F (put (put fr oi.dst vi) ox.dst vx) w p → F (put (put fr ox.dst vx) oi.dst vi) w p' :=
    fun vi vx w p p' hp h => hF _ _ _ _ _ (put_swap hap.dst) hp h
  rcases step_cases hr h with ⟨vi, ⟨hfi, h1⟩, hmk, -⟩ | ⟨hci, vi, hrd, ⟨hfi, h1⟩, hmk⟩ | ⟨h0, hn1, hiff⟩
  · exact step_mono (fun e he => he) (fun vx w1 p p' hp h2 => ⟨h2.1, hmk _ _ _ ⟨hfi, hsw _ _ _ _ _ hp h2.2⟩⟩) h1
  · rcases step_cases hr h1 with ⟨vx, ⟨hfx, h2⟩, hmkx, -⟩ | ⟨hcx, vx, hrdx, ⟨hfx, h2⟩, hmkx⟩ | ⟨hx0, hx1, hxiff⟩
    · exact hmkx _ _ _ ⟨hfx, hmk _ _ _ hrd ⟨hfi, hsw _ _ _ _ _ (fun e he => he) h2⟩⟩
    · exact hmkx _ _ _ hrdx ⟨hfx, hmk _ _ _ hrd ⟨hfi, hsw _ _ _ _ _ (fun e he => by
        simp only [List.mem_cons] at he ⊢
        rcases he with he | he | he
        · exact .inr (.inl he)
        · exact .inl he
        · exact .inr (.inr he)) h2⟩⟩
    · rw [hxiff] at h1 ⊢
      refine eff_mono (fun rv w'' h2 => ?_) h1
      rw [again_iff] at h2 ⊢
      obtain ⟨hag, hfx, h2⟩ := h2
      refine ⟨fun e he hbe => hag e (List.mem_cons_of_mem _ he) hbe, hfx, ?_⟩
      have hread := hag _ (List.mem_cons_self ..) hb
      exact hmk _ _ _ hread ⟨hfi, hsw _ _ _ _ _ (fun e he => he) h2⟩
  · have hx : cls P ox.op = 0 := by
      rcases hc with h | h | h
      · exact absurd h h0
      · exact h
      · exact absurd h hn1
    rw [hiff] at h
    obtain ⟨rv0, w0, hs⟩ := eff_some h
    have hs := (again_iff.1 hs).2.2
    rcases step_cases hr hs with ⟨vx, ⟨hfx, -⟩, hmkx, hdet⟩ | ⟨hcx, -⟩ | ⟨hx0, -⟩
    · refine hmkx _ _ _ ⟨hfx, ?_⟩
      rw [hiff]
      refine eff_mono (fun rv w'' h2 => ?_) h
      rw [again_iff] at h2 ⊢
      obtain ⟨hag, hfi, h2⟩ := h2
      have h3 := hdet _ _ _ h2
      exact ⟨hag, hfi, hsw _ _ _ _ _ (fun e he => he) h3.2⟩
    · rw [hx] at hcx; cases hcx
    · exact absurd hx hx0
theorem runV_cons {K : Fr → World → Prop} {i : Nat} {r : List Nat} {w : World} {past : Past} : runV wr P nt bef ops K (i :: r) fr w past ↔
    ∃ o, ops[i]? = some o ∧ stepD wr P bef ops i o fr w past fun v w' p' => Fits nt o.dst ∧ runV wr P nt bef ops K r (put fr o.dst v) w' p' := by
  simp only [runV, fput_iff]
  cases ops[i]? with
  | none => simp
  | some o => simp
theorem run_weak {K : Fr → World → Prop} (hK : ∀ f f' w, Feq f f' → K f w → K f' w) : ∀ (σ : List Nat) (fr fr' : Fr) (w : World) (p p' : Past), Feq fr fr' → (∀ e ∈ p', e ∈ p) → runV wr P nt bef ops K σ fr w p → runV wr P nt bef ops K σ fr' w p'
  | [], fr, fr', w, p, p', hf, hp, h => hK _ _ _ hf h
  | i :: r, fr, fr', w, p, p', hf, hp, h => by
    rw [runV_cons] at h ⊢
    obtain ⟨o, ho, h⟩ := h
    refine ⟨o, ho, ?_⟩
    rw [step_congr (fr' := fr') hf.agree] at h
    exact step_mono hp (fun v w' q q' hq h => ⟨h.1, run_weak hK r _ _ _ _ _ hf.put hq h.2⟩) h
structure Turns (P : Program) (bef : Nat → Nat → Bool) (ops : List Oper) (i x : Nat) : Prop where
  bef : bef i x = false
  apart : ∀ a b, ops[i]? = some a → ops[x]? = some b → Apart ops a b
  cls : ∀ a b, ops[i]? = some a → ops[x]? = some b → cls P a.op = 0 ∨ Vc.cls P b.op = 0 ∨ Vc.cls P a.op = 1
theorem Ref.has {a : Act} (hr : Ref nt ds fr a) {d : Option Nat} (hf : Fits nt d) (v : Option Value) : ∃ a, Ref nt ds (Vc.put fr d v) a := by
  cases d with
  | none => exact ⟨a, hr⟩
  | some d =>
    cases v with
    | some v => exact ⟨_, hr.put (hf d rfl) v⟩
    | none => exact ⟨_, hr.lose (some d) undef d rfl⟩
theorem pull {K : Fr → World → Prop} (hK : ∀ f f' w, Feq f f' → K f w → K f' w) {x : Nat} {σ2 : List Nat} : ∀ (σ1 : List Nat) (fr : Fr) (w : World) (past : Past) (a : Act), Ref nt ds fr a → (∀ i ∈ σ1, Turns P bef ops i x) →
    runV wr P nt bef ops K (σ1 ++ x :: σ2) fr w past → runV wr P nt bef ops K (x :: (σ1 ++ σ2)) fr w past
  | [], fr, w, past, a, hr, ht, h => h
  | i :: r, fr, w, past, a, hr, ht, h => by
    rw [List.cons_append, runV_cons] at h
    obtain ⟨oi, hoi, h⟩ := h
    have ht' : ∀ j ∈ r, Turns P bef ops j x := fun j hj => ht j (List.mem_cons_of_mem _ hj)
    have hti := ht i (List.mem_cons_self ..)
    have h2 : stepD wr P bef ops i oi fr w past fun v w' p' => Fits nt oi.dst ∧ runV wr P nt bef ops K (x :: (r ++ σ2)) (put fr oi.dst v) w' p' :=
      step_mono (fun e he => he) (fun v w' p p' hp h => by
        obtain ⟨hf, h⟩ := h
        obtain ⟨a', hr'⟩ := hr.has hf v
        exact ⟨hf, run_weak hK _ _ _ _ _ _ (fun t => rfl) hp (pull hK r _ _ _ a' hr' ht' h)⟩) h
    have hox : ∃ ox, ops[x]? = some ox := by
      rcases step_cases hr h2 with ⟨v, h, -⟩ | ⟨-, v, -, h, -⟩ | ⟨-, -, hiff⟩
      · exact (runV_cons.1 h.2).elim fun o h => ⟨o, h.1⟩
      · exact (runV_cons.1 h.2).elim fun o h => ⟨o, h.1⟩
      · rw [hiff] at h2
        obtain ⟨rv, w', h⟩ := eff_some h2
        exact (runV_cons.1 (again_iff.1 h).2.2).elim fun o h => ⟨o, h.1⟩
    obtain ⟨ox, hox⟩ := hox
    have h3 : stepD wr P bef ops i oi fr w past fun v w' p' => Fits nt oi.dst ∧ stepD wr P bef ops x ox (put fr oi.dst v) w' p' fun vx w2 p2 => Fits nt ox.dst ∧ runV wr P nt bef ops K (r ++ σ2) (put (put fr oi.dst v) ox.dst vx) w2 p2 :=
      step_mono (fun e he => he) (fun v w' p p' hp h => by
        obtain ⟨hf, h⟩ := h
        obtain ⟨o', ho', h⟩ := runV_cons.1 h
        rw [hox] at ho'; cases ho'
        exact ⟨hf, step_mono hp (fun vx w2 q q' hq h => ⟨h.1, run_weak hK _ _ _ _ _ _ (fun t => rfl) hq h.2⟩) h⟩) h2
    have h4 := turn hr (hti.apart _ _ hoi hox) hti.bef (hti.cls _ _ hoi hox)
      (F := fun f w p => runV wr P nt bef ops K (r ++ σ2) f w p) (fun f f' w p p' hf hp h => run_weak hK _ _ _ _ _ _ hf hp h) h3
    rw [runV_cons]
    refine ⟨ox, hox, step_mono (fun e he => he) (fun vx w1 p p' hp h => ?_) h4⟩
    obtain ⟨hfx, h⟩ := h
    refine ⟨hfx, ?_⟩
    rw [List.cons_append, runV_cons]
    exact ⟨oi, hoi, step_mono hp (fun v w2 q q' hq h => ⟨h.1, run_weak hK _ _ _ _ _ _ (fun t => rfl) hq h.2⟩) h⟩
end
theorem posIn_cons (x y : Nat) (r : List Nat) : posIn x (y :: r) = if x = y then 0 else posIn x r + 1 := by
  simp only [posIn]
  split <;> rename_i h
  · rw [if_pos (Nat.eq_of_beq_eq_true h)]
  · rw [if_neg fun e => by subst e; simp at h]
theorem posIn_lt {x : Nat} : ∀ {l : List Nat}, x ∈ l → posIn x l < l.length
  | y :: r, h => by
    rw [posIn_cons]
    split
    · simp
    · exact Nat.succ_lt_succ (posIn_lt ((List.mem_cons.1 h).resolve_left ‹_›))
theorem pos_pw : ∀ {l : List Nat}, l.Nodup → l.Pairwise fun a b => posIn a l < posIn b l
  | [], _ => .nil
  | x :: r, h => by
    have hx := (List.nodup_cons.1 h).1
    have hn : ∀ {y}, y ∈ r → y ≠ x := fun hy e => hx (e ▸ hy)
    refine .cons (fun y hy => ?_) ((pos_pw (List.nodup_cons.1 h).2).imp_of_mem fun ha hb hlt => ?_)
    · rw [posIn_cons, posIn_cons, if_pos rfl, if_neg (hn hy)]; omega
    · rw [posIn_cons, posIn_cons, if_neg (hn ha), if_neg (hn hb)]; omega
theorem go_spec (m : Region.Mode) (ops : Array Oper) (σ : List Nat) (hσ : forward m ops.toList σ = true) : ∀ (fuel t : Nat) (listed : Array Bool) (acc : List Nat), listed.size = ops.size →
    (listed.toList.filter (! ·)).length = fuel →
    ∃ L, Region.linearise.go m ops fuel t listed acc = acc.reverse ++ L ∧ (∀ i : Nat, i ∈ L ↔ listed[i]? = some false) ∧ L.Nodup ∧
      ∀ i ∈ L, ∀ o, ops[i]? = some o → ∀ e ∈ edgesIn m o, listed[e]? = some true ∨ posIn e L < posIn i L
  | 0, t, listed, acc, hs, hf => by
    refine ⟨[], by simp [Region.linearise.go], fun i => ?_, List.nodup_nil, fun i h => by cases h⟩
    simp only [List.not_mem_nil, false_iff]
    intro h
    have : false ∈ listed.toList := by
      rw [Array.getElem?_eq_some_iff] at h
      obtain ⟨h1, h2⟩ := h
      rw [← h2]; simp
    have h2 : false ∈ listed.toList.filter (! ·) := List.mem_filter.2 ⟨this, rfl⟩
    rw [List.length_eq_zero_iff] at hf
    rw [hf] at h2; cases h2
  | fuel + 1, t, listed, acc, hs, hf => by
    have hex : ∃ i : Nat, listed[i]? = some false := by
      have : (listed.toList.filter (! ·)) ≠ [] := by intro e; rw [e] at hf; simp at hf
      obtain ⟨b, hb⟩ := List.exists_mem_of_ne_nil _ this
      rw [List.mem_filter] at hb
      obtain ⟨h1, h2⟩ := hb
      obtain ⟨i, hi⟩ := List.getElem?_of_mem h1
      refine ⟨i, ?_⟩
      rw [Array.getElem?_toList] at hi
      rw [hi]; simpa using h2
    have hfree : ∀ (k i : Nat), listed[i]? = some false → posIn i σ ≤ k → ∃ j : Nat, listed[j]? = some false ∧ ∀ o, ops[j]? = some o → ∀ e ∈ edgesIn m o, listed[e]? = some true := by
      intro k
      induction k using Nat.strongRecOn with
      | _ k ih =>
        intro i hi hk
        by_cases hw : ∀ o, ops[i]? = some o → ∀ e ∈ edgesIn m o, listed[e]? = some true
        · exact ⟨i, hi, hw⟩
        · simp only [Classical.not_forall] at hw
          obtain ⟨o, ho, e, he, hne⟩ := hw
          have hilt : i < ops.toList.length := by
            have := (Array.getElem?_eq_some_iff.1 ho).1; simpa using this
          have hall := List.all_eq_true.1 hσ i (List.mem_range.2 hilt)
          have ho' : ops.toList[i]? = some o := by simpa using ho
          simp only [ho'] at hall
          have h2 := List.all_eq_true.1 hall e he
          simp only [Bool.and_eq_true, decide_eq_true_eq] at h2
          have hef : listed[e]? = some false := by
            have hlt : e < listed.size := by rw [hs]; simpa using h2.1
            rw [Array.getElem?_eq_getElem hlt] at hne ⊢
            cases hl : listed[e] with
            | true => exact absurd (by rw [hl]) hne
            | false => rfl
          exact ih (posIn e σ) (by omega) e hef (Nat.le_refl _)
    obtain ⟨i0, hi0⟩ := hex
    obtain ⟨j0, hj0, hj0'⟩ := hfree _ i0 hi0 (Nat.le_refl _)
    have hrs : ∀ i : Nat, i ∈ ((List.range ops.size).filter fun i => !listed.getD i true && ((ops[i]?).map (·.after.all fun e => !Region.binds m e || listed.getD e.on false)).getD false) ↔
        listed[i]? = some false ∧ ∀ o, ops[i]? = some o → ∀ e ∈ edgesIn m o, listed[e]? = some true := by
      intro i
      rw [List.mem_filter, List.mem_range]
      constructor
      · rintro ⟨hlt, h⟩
        simp only [Bool.and_eq_true] at h
        obtain ⟨h1, h2⟩ := h
        have hlt' : i < listed.size := by omega
        refine ⟨?_, fun o ho e he => ?_⟩
        · rw [Array.getElem?_eq_getElem hlt']
          rw [Array.getD_eq_getD_getElem?, Array.getElem?_eq_getElem hlt'] at h1
          simp at h1; rw [h1]
        · rw [ho] at h2
          simp only [Option.map_some, Option.getD_some] at h2
          simp only [edgesIn, List.mem_map, List.mem_filter] at he
          obtain ⟨ed, ⟨he1, he2⟩, rfl⟩ := he
          have := Array.all_eq_true'.1 h2 ed (by simpa using he1)
          simp only [he2, Bool.not_true, Bool.false_or] at this
          rw [Array.getD_eq_getD_getElem?] at this
          cases hx : listed[ed.on]? with
          | none => rw [hx] at this; simp at this
          | some b => rw [hx] at this; simp at this; rw [this]
      · rintro ⟨h1, h2⟩
        have hlt : i < ops.size := by rw [← hs]; exact (Array.getElem?_eq_some_iff.1 h1).1
        refine ⟨hlt, ?_⟩
        simp only [Bool.and_eq_true]
        refine ⟨by rw [Array.getD_eq_getD_getElem?, h1]; rfl, ?_⟩
        rw [Array.getElem?_eq_getElem hlt]
        simp only [Option.map_some, Option.getD_some]
        refine Array.all_eq_true'.2 fun ed hed => ?_
        cases hb : Region.binds m ed with
        | false => rfl
        | true =>
          have := h2 _ (Array.getElem?_eq_getElem hlt) ed.on (by
            simp only [edgesIn, List.mem_map, List.mem_filter]
            exact ⟨ed, ⟨by simpa using hed, hb⟩, rfl⟩)
          rw [Array.getD_eq_getD_getElem?, this]; rfl
    simp only [Region.linearise.go]
    generalize hR : ((List.range ops.size).filter fun i => !listed.getD i true && ((ops[i]?).map (·.after.all fun e => !Region.binds m e || listed.getD e.on false)).getD false) = rs at hrs
    have hne : rs ≠ [] := fun e => by
      have := (hrs j0).2 ⟨hj0, hj0'⟩
      rw [e] at this; cases this
    have hlen : t % rs.length < rs.length := Nat.mod_lt _ (List.length_pos_iff.2 hne)
    rw [List.getElem?_eq_getElem hlen]
    simp only
    have him : rs[t % rs.length] ∈ rs := List.getElem_mem hlen
    generalize rs[t % rs.length] = i at him
    obtain ⟨hi, hie⟩ := (hrs i).1 him
    have hilt : i < listed.size := (Array.getElem?_eq_some_iff.1 hi).1
    have hcount : ((listed.setIfInBounds i true).toList.filter (! ·)).length = fuel := by
      rw [Array.toList_setIfInBounds]
      have h1 : listed.toList[i]? = some false := by rw [Array.getElem?_toList]; exact hi
      have key : ∀ (l : List Bool) (i : Nat), l[i]? = some false → ((l.set i true).filter (! ·)).length + 1 = (l.filter (! ·)).length := by
        intro l
        induction l with
        | nil => intro i h; simp at h
        | cons b l ih =>
          intro i h
          cases i with
          | zero => simp at h; subst h; simp
          | succ i =>
            simp only [List.getElem?_cons_succ] at h
            have := ih i h
            cases b <;> simp [List.set_cons_succ, List.filter_cons] <;> omega
      have := key _ _ h1
      omega
    obtain ⟨L, e1, e2, e3, e4⟩ := go_spec m ops σ hσ fuel (t / rs.length) (listed.setIfInBounds i true) (i :: acc) (by simpa using hs) hcount
    have hget : ∀ k : Nat, (listed.setIfInBounds i true)[k]? = if i = k then some true else listed[k]? := by
      intro k
      rw [Array.getElem?_setIfInBounds]
      split
      · first | rfl | rw [if_pos hilt]
      · rfl
    refine ⟨i :: L, by rw [e1]; simp, fun k => ?_, ?_, ?_⟩
    · rw [List.mem_cons, e2, hget]
      by_cases hk : i = k
      · subst hk; simp [hi]
      · rw [if_neg hk]
        simp [Ne.symm hk]
    · refine List.nodup_cons.2 ⟨fun h => ?_, e3⟩
      rw [e2, hget, if_pos rfl] at h
      cases h
    · intro k hk o ho e he
      rw [posIn_cons, posIn_cons]
      by_cases hki : k = i
      · subst hki; exact .inl (hie o ho e he)
      · rw [if_neg hki]
        rcases e4 k ((List.mem_cons.1 hk).resolve_left hki) o ho e he with h | h
        · rw [hget] at h
          split at h
          · rw [if_pos (Eq.symm ‹_›)]; exact .inr (by omega)
          · exact .inl h
        · exact .inr (by split <;> omega)
structure Lists (m : Region.Mode) (ops : Array Oper) (τ : List Nat) : Prop where
  mem : ∀ i, i ∈ τ ↔ i < ops.size
  nodup : τ.Nodup
  edge : ∀ i o, ops[i]? = some o → ∀ e ∈ edgesIn m o, posIn e τ < posIn i τ
theorem lists_of {m : Region.Mode} {ops : Array Oper} {σ : List Nat} (hσ : forward m ops.toList σ = true) (t : Nat) : Lists m ops (Region.linearise m ops t) := by
  obtain ⟨L, e1, e2, e3, e4⟩ := go_spec m ops σ hσ ops.size t (Array.replicate ops.size false) [] (by simp) (by simp)
  have e : Region.linearise m ops t = L := by simpa [Region.linearise] using e1
  rw [e]
  have hm : ∀ i, i ∈ L ↔ i < ops.size := fun i => by
    rw [e2, Array.getElem?_replicate]
    split <;> simp_all
  refine ⟨hm, e3, fun i o ho e he => (e4 i ((hm i).2 (Array.getElem?_eq_some_iff.1 ho).1) o ho e he).resolve_left fun h => ?_⟩
  rw [Array.getElem?_replicate] at h
  split at h <;> cases h
theorem any_of_mode {m : Region.Mode} {o : Oper} {e : Nat} (h : e ∈ edgesIn .any o) : e ∈ edgesIn m o := by
  simp only [edgesIn, List.mem_map, List.mem_filter] at h ⊢
  obtain ⟨ed, ⟨h1, h2⟩, rfl⟩ := h
  refine ⟨ed, ⟨h1, ?_⟩, rfl⟩
  simp only [Region.binds] at h2 ⊢
  split at h2 <;> first | rfl | cases h2
def Good (τ : List Nat) (cl : List Nat) : Prop := ∀ i j, before cl i j = true → posIn j τ < τ.length → posIn i τ < posIn j τ
theorem bits_mem (f g : Nat → Nat) : ∀ (l : List Nat) (s i : Nat), Nat.testBit (l.foldl (fun s e => Nat.lor s (Nat.lor (Nat.pow 2 e) (Nat.lor (f e) (g e)))) s) i = true →
    Nat.testBit s i = true ∨ ∃ e ∈ l, i = e ∨ Nat.testBit (f e) i = true ∨ Nat.testBit (g e) i = true
  | [], s, i, h => .inl h
  | e :: r, s, i, h => by
    rw [List.foldl_cons] at h
    rcases bits_mem f g r _ i h with h | ⟨e', he', h⟩
    · have h : Nat.testBit (s ||| (2 ^ e ||| (f e ||| g e))) i = true := h
      rw [Nat.testBit_or, Nat.testBit_or, Nat.testBit_or] at h
      simp at h
      rcases h with h | h | h | h
      · exact .inl h
      · rw [Nat.testBit_two_pow] at h
        exact .inr ⟨e, List.mem_cons_self .., .inl (of_decide_eq_true h).symm⟩
      · exact .inr ⟨e, List.mem_cons_self .., .inr (.inl h)⟩
      · exact .inr ⟨e, List.mem_cons_self .., .inr (.inr h)⟩
    · exact .inr ⟨e', List.mem_cons_of_mem _ he', h⟩
theorem good_nil (τ : List Nat) : Good τ [] := by
  intro i j h
  simp [before, getN] at h
theorem good_pass {m : Region.Mode} {ops : Array Oper} {τ : List Nat} (hl : Lists m ops τ) {ex : List (Nat × Nat)} (hex : ∀ p ∈ ex, posIn p.1 τ < posIn p.2 τ) {prev : List Nat} (hp : Good τ prev) :
    Good τ (passM ex prev ops.toList) := by
  have key : ∀ (l done : List Oper) (acc : List Nat), ops.toList = done ++ l → acc.length = done.length → Good τ acc →
      Good τ (l.foldl (fun acc o => acc ++ [(edgesX ex acc.length o).foldl (fun s e => Nat.lor s (Nat.lor (Nat.pow 2 e) (Nat.lor (getN acc e) (getN prev e)))) 0]) acc) := by
    intro l
    induction l with
    | nil => exact fun done acc _ _ h => h
    | cons o r ih =>
      intro done acc ho hlen hg
      rw [List.foldl_cons]
      refine ih (done ++ [o]) _ (by rw [ho]; simp) (by simp [hlen]) ?_
      intro i j hb hτ
      simp only [before, getN] at hb
      by_cases hj : j < acc.length
      · rw [List.getElem?_append_left hj] at hb
        exact hg i j hb hτ
      · by_cases hj2 : j = acc.length
        · subst hj2
          rw [List.getElem?_append_right (Nat.le_refl _)] at hb
          simp only [Nat.sub_self, List.getElem?_cons_zero, Option.getD_some] at hb
          rcases bits_mem _ _ _ _ _ hb with h | ⟨e, he, h⟩
          · simp at h
          · have heA : posIn e τ < posIn acc.length τ := by
              simp only [edgesX, List.mem_append, List.mem_map, List.mem_filter] at he
              rcases he with he | ⟨p, ⟨hp1, hp2⟩, rfl⟩
              · refine hl.edge _ o ?_ e (any_of_mode ?_)
                · have : ops.toList[acc.length]? = some o := by rw [ho, hlen]; simp
                  simpa using this
                · simpa [edgesIn, edges] using he
              · exact Nat.eq_of_beq_eq_true hp2 ▸ hex p hp1
            rcases h with rfl | h | h
            · exact heA
            · exact Nat.lt_trans (hg i e h (by omega)) heA
            · exact Nat.lt_trans (hp i e h (by omega)) heA
        · rw [List.getElem?_eq_none (by simp; omega)] at hb
          simp at hb
  exact key ops.toList [] [] rfl rfl (good_nil τ)
theorem good_closure {m : Region.Mode} {ops : Array Oper} {τ : List Nat} (hl : Lists m ops τ) {ex : List (Nat × Nat)} (hex : ∀ p ∈ ex, posIn p.1 τ < posIn p.2 τ) : Good τ (closure ex ops.toList) := by
  unfold closure
  split
  · exact good_pass hl (fun p hp => by cases hp) (good_nil τ)
  · exact good_pass hl hex (good_pass hl hex (good_pass hl hex (good_nil τ)))
theorem remove_erase (x : Nat) : ∀ l : List Nat, remove x l = l.erase x
  | [] => rfl
  | y :: r => by
    rw [List.erase_cons]
    simp only [remove, remove_erase x r]
    split
    · rename_i h; rw [if_pos (by simpa using (Nat.eq_of_beq_eq_true h).symm)]
    · rename_i h
      have hn : ¬y = x := fun e => by subst e; simp at h
      rw [if_neg (by simpa using hn)]
theorem exts_mem {cl : List Nat} : ∀ (n : Nat) (l eo : List Nat), l.length = n → eo.Perm l → (∀ x ∈ l, before cl x x = false) → eo.Pairwise (fun x y => before cl y x = false) → eo ∈ extsOf cl n l
  | 0, l, eo, hn, hp, hx, hr => by
    obtain rfl := List.eq_nil_of_length_eq_zero hn
    obtain rfl := hp.eq_nil
    simp [extsOf]
  | n + 1, l, [], hn, hp, hx, hr => by rw [← hp.length_eq] at hn; cases hn
  | n + 1, l, x :: r, hn, hp, hx, hr => by
    obtain ⟨hxl, hp'⟩ := List.cons_perm_iff_perm_erase.1 hp
    obtain ⟨h1, h2⟩ := List.pairwise_cons.1 hr
    simp only [extsOf, List.mem_flatMap, List.mem_filter, List.mem_map]
    refine ⟨x, ⟨hxl, List.all_eq_true.2 fun y hy => ?_⟩, r, exts_mem n _ r ?_ ?_ (fun y hy => hx y ?_) h2, rfl⟩
    · rcases List.mem_cons.1 (hp.mem_iff.2 hy) with rfl | h
      · rw [hx y hy]; rfl
      · rw [h1 y h]; rfl
    · rw [remove_erase, List.length_erase_of_mem hxl]; omega
    · rw [remove_erase]; exact hp'
    · rw [remove_erase] at hy; exact List.mem_of_mem_erase hy
theorem chain_pw {R : Nat → Nat → Prop} : ∀ {eo : List Nat}, eo.Pairwise R → ∀ q ∈ chainOf eo, R q.1 q.2
  | x :: y :: r, h, q, hq => by
    rcases List.mem_cons.1 hq with rfl | hq
    · exact (List.pairwise_cons.1 h).1 y (List.mem_cons_self ..)
    · exact chain_pw (List.pairwise_cons.1 h).2 q hq
  | [x], h, q, hq => by cases hq
  | [], h, q, hq => by cases hq
theorem turners_mem {P : Program} : ∀ (l : List Oper) (k i : Nat), i ∈ turners P l k ↔ k ≤ i ∧ ∃ o, l[i - k]? = some o ∧ cls P o.op ≠ 0 ∧ cls P o.op ≠ 1
  | [], k, i => by simp [turners]
  | o :: r, k, i => by
    have ih := turners_mem (P := P) r (k + 1) i
    have rest : (k + 1 ≤ i ∧ ∃ o, r[i - (k + 1)]? = some o ∧ cls P o.op ≠ 0 ∧ cls P o.op ≠ 1) ↔ (k ≤ i ∧ i ≠ k ∧ ∃ o', (o :: r)[i - k]? = some o' ∧ cls P o'.op ≠ 0 ∧ cls P o'.op ≠ 1) := by
      constructor
      · rintro ⟨h1, h2⟩
        refine ⟨by omega, by omega, ?_⟩
        rw [show i - k = (i - (k + 1)) + 1 by omega]
        simpa using h2
      · rintro ⟨h1, h2, h3⟩
        refine ⟨by omega, ?_⟩
        rw [show i - k = (i - (k + 1)) + 1 by omega] at h3
        simpa using h3
    simp only [turners]
    split
    · rename_i hc
      rw [ih, rest]
      constructor
      · rintro ⟨h1, _, h3⟩; exact ⟨h1, h3⟩
      · rintro ⟨h1, o', h3, h4⟩
        refine ⟨h1, fun e => ?_, o', h3, h4⟩
        subst e; simp at h3; subst h3; exact h4.1 hc
    · rename_i hc
      rw [ih, rest]
      constructor
      · rintro ⟨h1, _, h3⟩; exact ⟨h1, h3⟩
      · rintro ⟨h1, o', h3, h4⟩
        refine ⟨h1, fun e => ?_, o', h3, h4⟩
        subst e; simp at h3; subst h3; exact h4.2 hc
    · rename_i h0 h1
      rw [List.mem_cons, ih, rest]
      constructor
      · rintro (rfl | ⟨h1', _, h3⟩)
        · exact ⟨Nat.le_refl _, o, by simp, h0, h1⟩
        · exact ⟨h1', h3⟩
      · rintro ⟨h1', h3⟩
        by_cases e : i = k
        · exact .inl e
        · exact .inr ⟨h1', e, h3⟩
theorem turners_nodup {P : Program} : ∀ (l : List Oper) (k : Nat), (turners P l k).Nodup
  | [], k => List.nodup_nil
  | o :: r, k => by
    have ih := turners_nodup (P := P) r (k + 1)
    simp only [turners]
    split
    · exact ih
    · exact ih
    · refine List.nodup_cons.2 ⟨fun h => ?_, ih⟩
      rw [turners_mem] at h
      omega
theorem pairs_of {f : Nat → Nat → Bool} : ∀ {σ : List Nat}, pairsOk f σ = true → σ.Pairwise (fun i j => f i j = true)
  | [], _ => List.Pairwise.nil
  | i :: r, h => by
    simp only [pairsOk, Bool.and_eq_true] at h
    exact List.Pairwise.cons (fun j hj => List.all_eq_true.1 h.1 j hj) (pairs_of h.2)
theorem nodup_of : ∀ {σ : List Nat}, nodupB σ = true → σ.Nodup
  | [], _ => List.nodup_nil
  | i :: r, h => by
    simp only [nodupB, Bool.and_eq_true] at h
    exact List.nodup_cons.2 ⟨by simpa using h.1, nodup_of h.2⟩
section
variable {wr : Option Bool} {P : Program} {nt : Nat} {ds : List Deferred} {rd : Option Nat} {n : Nat}
theorem Ref.putv {fr : Fr} {a : Act} (hr : Ref nt ds fr a) {d : Option Nat} (hf : Fits nt d) {rv : Option Value} {v : Value} (hv : ∀ u, rv = some u → v = u) : Ref nt ds (Vc.put fr d rv) (a.put d v) := by
  cases d with
  | none => exact hr
  | some d =>
    cases rv with
    | some u => cases hv u rfl; exact hr.put (hf d rfl) v
    | none => exact hr.lose (some d) v d rfl
theorem draw_run (hN : NoNum P) {opsA : Array Oper} {Q : Exit → Act → World → Prop} {K : Fr → World → Prop} (hK : ∀ f f' w, Feq f f' → K f w → K f' w) (hQ : ∀ fr w a, K fr w → Ref nt ds fr a → Q .normal a w) :
    ∀ (cl τ σ : List Nat) (fr : Fr) (w : World) (past : Past) (a : Act), σ.Perm τ → τ.Pairwise (fun x i => before cl i x = false) → σ.Pairwise (fun i j => turnOk P opsA.toList cl i j = true) →
      runV wr P nt (before cl) opsA.toList K σ fr w past → Ref nt ds fr a → wpOpsIn (W rd) n P opsA Q τ a w
  | cl, [], σ, fr, w, past, a, hs, hresp, hp, h, hr => by
    obtain rfl := hs.eq_nil
    exact hQ _ _ _ h hr
  | cl, x :: τ', σ, fr, w, past, a, hs, hresp, hp, h, hr => by
    obtain ⟨σ1, σ2, rfl⟩ := List.append_of_mem (hs.mem_iff.2 (List.mem_cons_self ..))
    have hs' := (List.perm_middle.symm.trans hs).cons_inv
    have hturn : ∀ i ∈ σ1, Turns P (before cl) opsA.toList i x := by
      intro i hi
      have hb : before cl i x = false := (List.pairwise_cons.1 hresp).1 i (hs'.mem_iff.1 (List.mem_append_left _ hi))
      have hok := (List.pairwise_append.1 hp).2.2 i hi x (List.mem_cons_self ..)
      simp only [turnOk, hb, Bool.false_or, Bool.and_eq_true] at hok
      obtain ⟨⟨-, hap⟩, hc⟩ := hok
      refine ⟨hb, fun a b ha hb' => apart_of ha hb' hap, fun a b ha hb' => ?_⟩
      simp only [ha, hb'] at hc
      split at hc
      · left; assumption
      · right; left; assumption
      · right; right; assumption
      · cases hc
    have h2 := pull hK σ1 fr w past a hr hturn h
    obtain ⟨o, ho, h3⟩ := runV_cons.1 h2
    refine step_upon hN ho h3 hr fun rv w' p' hk v hv => ?_
    exact draw_run hN hK hQ cl τ' (σ1 ++ σ2) _ _ _ _ hs' (List.pairwise_cons.1 hresp).2 (hp.sublist ((List.sublist_cons_self x σ2).append_left σ1)) hk.2 (hr.putv hk.1 hv)
theorem drawAll_mem {f : List Nat → Prop} : ∀ {l : List (List Nat)} {x : List Nat}, x ∈ l → drawAll f l → f x
  | [y], x, hx, h => by
    simp at hx; subst hx; exact h
  | y :: z :: r, x, hx, h => by
    rcases List.mem_cons.1 hx with rfl | hx
    · exact h.1
    · exact drawAll_mem hx h.2
def oneV (wr : Option Bool) (P : Program) (nt : Nat) (opsA : Array Oper) (K : Fr → World → Prop) (fr : Fr) (w : World) (eo : List Nat) : Prop :=
  match closure (chainOf eo) opsA.toList with
  | cl => match orderOf P opsA.toList cl (List.range opsA.toList.length) opsA.toList.length 0 with
    | σ => match drawOk P opsA cl σ with
      | true => runV wr P nt (before cl) opsA.toList K σ fr w []
      | false => False
theorem oneV_mono {opsA : Array Oper} {K K' : Fr → World → Prop} {fr : Fr} {w : World} {eo : List Nat}
    (hk : ∀ cl σ, runV wr P nt (before cl) opsA.toList K σ fr w [] → runV wr P nt (before cl) opsA.toList K' σ fr w []) (h : oneV wr P nt opsA K fr w eo) : oneV wr P nt opsA K' fr w eo := by
  simp only [oneV] at h ⊢
  split at h
  · exact hk _ _ h
  · exact h.elim
theorem drawAll_mono {f g : List Nat → Prop} (hf : ∀ x, f x → g x) : ∀ {l : List (List Nat)}, drawAll f l → drawAll g l
  | [], h => h
  | [x], h => hf x h
  | x :: y :: r, h => ⟨hf x h.1, drawAll_mono hf h.2⟩
theorem draw_upon (hN : NoNum P) {opsA : Array Oper} {Q : Exit → Act → World → Prop} {K : Fr → World → Prop} (hK : ∀ f f' w, Feq f f' → K f w → K f' w) (hQ : ∀ fr w a, K fr w → Ref nt ds fr a → Q .normal a w)
    {fr : Fr} {w : World} {a : Act} (hbase : drawBase opsA = true)
    (h : drawAll (oneV wr P nt opsA K fr w) (extsOf (closure [] opsA.toList) (turners P opsA.toList 0).length (turners P opsA.toList 0))) (hr : Ref nt ds fr a) (mixed : Bool) (t : Nat) :
    wpOpsIn (W rd) n P opsA Q (Region.schedule mixed opsA t) a w := by
  simp only [drawBase, Bool.and_eq_true] at hbase
  obtain ⟨hfa, hdep⟩ := hbase
  have hlists : ∃ m, Lists m opsA (Region.schedule mixed opsA t) := by
    simp only [Region.schedule]
    split
    · exact ⟨_, lists_of hfa t⟩
    · rename_i hc
      have hd : Region.departs opsA = true := by
        cases hd : Region.departs opsA with
        | true => rfl
        | false => rw [hd] at hc; simp at hc
      simp only [hd, Bool.not_true, Bool.false_or, Bool.and_eq_true] at hdep
      split
      · exact ⟨_, lists_of hdep.1 _⟩
      · exact ⟨_, lists_of hdep.2 _⟩
  obtain ⟨m, hl⟩ := hlists
  generalize Region.schedule mixed opsA t = τ at hl ⊢
  let p : Nat → Bool := fun i => (turners P opsA.toList 0).contains i
  have hgood0 := good_closure (ex := []) hl (fun q hq => by cases hq)
  have hself : ∀ cl, Good τ cl → ∀ x ∈ τ, before cl x x = false := fun cl hg x hx =>
    Bool.eq_false_iff.2 fun hb => Nat.lt_irrefl _ (hg x x hb (posIn_lt hx))
  have hresp : ∀ cl, Good τ cl → τ.Pairwise fun x i => before cl i x = false := fun cl hg =>
    (pos_pw hl.nodup).imp_of_mem fun ha hb hlt => Bool.eq_false_iff.2 fun h => Nat.lt_asymm hlt (hg _ _ h (posIn_lt ha))
  have htm : ∀ x, x ∈ turners P opsA.toList 0 → x ∈ τ := by
    intro x hx
    rw [turners_mem] at hx
    obtain ⟨-, o, ho, -⟩ := hx
    rw [hl.mem]
    have := (List.getElem?_eq_some_iff.1 ho).1
    simpa using this
  have hmem : τ.filter p ∈ extsOf (closure [] opsA.toList) (turners P opsA.toList 0).length (turners P opsA.toList 0) := by
    refine exts_mem _ _ _ rfl ((List.perm_ext_iff_of_nodup (hl.nodup.filter p) (turners_nodup _ _)).2 fun x => ?_) (fun x hx => hself _ hgood0 x (htm x hx)) ((hresp _ hgood0).filter p)
    rw [List.mem_filter]
    constructor
    · rintro ⟨-, h2⟩; simpa [p] using h2
    · intro hx; exact ⟨htm x hx, by simpa [p] using hx⟩
  have h1 := drawAll_mem hmem h
  have hgood := good_closure (ex := chainOf (τ.filter p)) hl (chain_pw ((pos_pw hl.nodup).filter p))
  simp only [oneV] at h1
  split at h1
  · rename_i hok
    simp only [drawOk, Bool.and_eq_true, decide_eq_true_eq] at hok
    obtain ⟨⟨⟨hlen, hnd⟩, hall⟩, hpairs⟩ := hok
    have hs := nodup_of hnd
    refine draw_run hN hK hQ _ _ _ fr w [] a ((List.perm_ext_iff_of_nodup hs hl.nodup).2 fun i => ?_) (hresp _ hgood) (pairs_of hpairs) h1 hr
    have hall : ∀ k ∈ _, k < opsA.toList.length := fun k hk => of_decide_eq_true (List.all_eq_true.1 hall k hk)
    rw [hl.mem, ← Array.length_toList]
    refine ⟨hall i, fun hi => Classical.byContradiction fun hn => ?_⟩
    have := (List.nodup_cons.2 ⟨hn, hs⟩).length_le_of_subset (l₂ := List.range opsA.toList.length) fun k hk => List.mem_range.2 (by
      rcases List.mem_cons.1 hk with rfl | h
      · exact hi
      · exact hall k h)
    rw [List.length_cons, List.length_range] at this
    omega
  · exact h1.elim
end
end Go.Vc
namespace Go.Vc
open Go
def Keep (ms : List Nat) (fr fr' : Fr) : Prop := ∀ t, t ∉ ms → fget fr' t = fget fr t
theorem Keep.refl (ms : List Nat) (fr : Fr) : Keep ms fr fr := fun _ _ => rfl
theorem Keep.trans {ms : List Nat} {a b c : Fr} (h : Keep ms a b) (h' : Keep ms b c) : Keep ms a c := fun t ht => (h' t ht).trans (h t ht)
theorem Keep.more {ms ms' : List Nat} {a b : Fr} (h : Keep ms a b) (hs : ∀ t ∈ ms, t ∈ ms') : Keep ms' a b := fun t ht => h t fun h' => ht (hs t h')
theorem opsMods_mem {ops : List Oper} {o : Oper} {d : Nat} (h : o ∈ ops) (hd : o.dst = some d) : d ∈ opsMods ops := by
  induction ops with
  | nil => cases h
  | cons x r ih =>
    simp only [opsMods]
    rcases List.mem_cons.1 h with rfl | h
    · rw [hd]; exact List.mem_cons_self ..
    · cases x.dst with
      | none => exact ih h
      | some _ => exact List.mem_cons_of_mem _ (ih h)
section
variable {wr : Option Bool} {P : Program} {bef : Nat → Nat → Bool} {ops : List Oper} {nt : Nat} {ds : List Deferred}
theorem run_past {K : Fr → World → Prop} : ∀ (σ : List Nat) (fr : Fr) (w : World) (p p' : Past), (∀ e ∈ p', e ∈ p) → runV wr P nt bef ops K σ fr w p → runV wr P nt bef ops K σ fr w p'
  | [], fr, w, p, p', hp, h => h
  | i :: r, fr, w, p, p', hp, h => by
    rw [runV_cons] at h ⊢
    obtain ⟨o, ho, h⟩ := h
    exact ⟨o, ho, step_mono hp (fun v w' q q' hq h => ⟨h.1, run_past r _ _ _ _ hq h.2⟩) h⟩
theorem run_keep {K K' : Fr → World → Prop} : ∀ (σ : List Nat) (fr : Fr) (w : World) (p : Past), runV wr P nt bef ops K σ fr w p → (∀ fr' w', K fr' w' → Keep (opsMods ops) fr fr' → K' fr' w') → runV wr P nt bef ops K' σ fr w p
  | [], fr, w, p, h, hk => hk _ _ h (Keep.refl _ _)
  | i :: r, fr, w, p, h, hk => by
    rw [runV_cons] at h ⊢
    obtain ⟨o, ho, h⟩ := h
    refine ⟨o, ho, step_mono (fun e he => he) (fun v w' q q' hq h => ⟨h.1, ?_⟩) h⟩
    refine run_keep r _ _ _ (run_past r _ _ _ _ hq h.2) fun fr' w'' hK hkeep => hk _ _ hK ?_
    refine Keep.trans ?_ hkeep
    intro t ht
    exact put_other fun x hx e => ht (e ▸ opsMods_mem (List.mem_of_getElem? ho) hx)
end
theorem from_to {k : Kd} {v : Value} {s : KTy k} (h : fromV k v = some s) : v = toV k s := by
  cases k with
  | inl k =>
    cases v <;> simp only [fromV] at h <;> try cases h
    split at h
    · rename_i hk
      have hk := of_decide_eq_true hk
      cases h; subst hk; rfl
    · cases h
  | inr n =>
    rcases n with _ | _ | _ | _ | _ | n
    · cases v <;> first | (cases h; rfl) | cases h
    · cases v <;> first | (cases h; rfl) | cases h
    · cases v <;> first | (cases h; rfl) | cases h
    · cases v <;> first | (cases h; rfl) | cases h
    · cases v <;> first | (cases h; rfl) | cases h
    · have h' : (some v : Option (KTy (.inr (n + 5)))) = some s := by cases v <;> exact h
      exact Option.some.inj h'
theorem getSt_some : ∀ {st : List (Nat × Kd)} {fr : Fr} {K : StTy st → Prop}, getSt st fr K → ∃ s, K s ∧ ∀ fr0 t v, fget (setSt st s fr0) t = some v → fget fr t = some v ∨ (t ∉ st.map (·.1) ∧ fget fr0 t = some v)
  | [], fr, K, h => ⟨(), h, fun fr0 t v ht => .inr ⟨by simp, ht⟩⟩
  | [x], fr, K, h => by
    simp only [getSt] at h
    split at h
    · rename_i u hu
      split at h
      · rename_i s hs
        refine ⟨s, h, fun fr0 t v ht => ?_⟩
        simp only [setSt] at ht
        by_cases htx : t = x.1
        · subst htx
          rw [fget_hit] at ht
          cases ht
          left; rw [hu, from_to hs]
        · rw [fget_miss _ _ _ _ htx] at ht
          exact .inr ⟨by simpa using htx, ht⟩
      · exact h.elim
    · exact h.elim
  | x :: y :: r, fr, K, h => by
    simp only [getSt] at h
    split at h
    · rename_i u hu
      split at h
      · rename_i s hs
        obtain ⟨s', h, hall⟩ := getSt_some (st := y :: r) h
        refine ⟨(s, s'), h, fun fr0 t v ht => ?_⟩
        simp only [setSt] at ht
        by_cases htx : t = x.1
        · subst htx
          rw [fget_hit] at ht
          cases ht
          left; rw [hu, from_to hs]
        · rw [fget_miss _ _ _ _ htx] at ht
          rcases hall fr0 t v ht with h1 | ⟨h1, h2⟩
          · exact .inl h1
          · exact .inr ⟨by simpa [htx] using h1, h2⟩
      · exact h.elim
    · exact h.elim
theorem setSt_other : ∀ {st : List (Nat × Kd)} {s : StTy st} {fr : Fr} {t : Nat}, t ∉ st.map (·.1) → fget (setSt st s fr) t = fget fr t
  | [], s, fr, t, h => rfl
  | [x], s, fr, t, h => by
    simp at h
    exact fget_miss _ _ _ _ h
  | x :: y :: r, s, fr, t, h => by
    simp only [setSt]
    simp at h
    rw [fget_miss _ _ _ _ h.1]
    exact setSt_other (st := y :: r) (by simp [h.2.1]; simpa using h.2.2)
theorem havoc_in : ∀ {ms : List Nat} {fr : Fr} {t : Nat}, t ∈ ms → fget (havoc ms fr) t = none
  | x :: r, fr, t, h => by
    simp only [havoc]
    by_cases hx : t = x
    · subst hx; exact fget_hit ..
    · rw [fget_miss _ _ _ _ hx]
      exact havoc_in ((List.mem_cons.1 h).resolve_left hx)
theorem havoc_out : ∀ {ms : List Nat} {fr : Fr} {t : Nat}, t ∉ ms → fget (havoc ms fr) t = fget fr t
  | [], fr, t, h => rfl
  | x :: r, fr, t, h => by
    simp only [havoc]
    simp at h
    rw [fget_miss _ _ _ _ h.1]
    exact havoc_out h.2
theorem stOk_mem : ∀ {st : List (Nat × Kd)} {ms : List Nat}, stOk st ms = true → ∀ t ∈ st.map (·.1), t ∈ ms
  | [], ms, h, t, ht => by cases ht
  | x :: r, ms, h, t, ht => by
    simp only [stOk, Bool.and_eq_true] at h
    rcases List.mem_cons.1 ht with rfl | ht
    · simpa using h.1
    · exact stOk_mem h.2 t ht
theorem keep_set {st : List (Nat × Kd)} {ms : List Nat} (hst : stOk st ms = true) (s : StTy st) (fr : Fr) : Keep ms fr (setSt st s (havoc ms fr)) := by
  intro t ht
  rw [setSt_other fun h => ht (stOk_mem hst t h), havoc_out ht]
section
variable {P : Program} {nt : Nat} {ds : List Deferred}
theorem ref_set {st : List (Nat × Kd)} {ms : List Nat} (hst : stOk st ms = true) {fr fr' : Fr} {a : Act} (hr : Ref nt ds fr' a) (hk : Keep ms fr fr') {K : StTy st → Prop} (h : getSt st fr' K) :
    ∃ s, K s ∧ Ref nt ds (setSt st s (havoc ms fr)) a := by
  obtain ⟨s, h, hall⟩ := getSt_some h
  refine ⟨s, h, hr.size, hr.defers, fun t v ht => ?_⟩
  rcases hall _ t v ht with h1 | ⟨h1, h2⟩
  · exact hr.val t v h1
  · by_cases hm : t ∈ ms
    · rw [havoc_in hm] at h2; cases h2
    · rw [havoc_out hm] at h2
      exact hr.val t v (by rw [hk t hm, h2])
theorem and_true {a b : Bool} (h : (a && b) = true) : a = true ∧ b = true := by simpa using h
theorem exists_least {p : Nat → Prop} (h : ∃ n, p n) : ∃ n, p n ∧ ∀ m, m < n → ¬ p m := by
  obtain ⟨n, hn⟩ := h
  induction n using Nat.strongRecOn with
  | _ n ih =>
    by_cases hx : ∃ m, m < n ∧ p m
    · obtain ⟨m, h1, h2⟩ := hx; exact ih m h1 h2
    · exact ⟨n, hn, fun m hm hp => hx ⟨m, hm, hp⟩⟩
theorem wpIn_loop_n {F : Fence} {n : Nat} {c : Code} {Q : Exit → Act → World → Prop} (I : Nat → Act → World → Prop) {a : Act} {w : World} (h0 : ∃ m, I m a w)
    (round : ∀ m a w, I m a w → c.wpIn F n P (Exit.then (fun a' w' => ∃ m', m' < m ∧ I m' a' w') Q) a w) : (Code.loop c).wpIn F n P Q a w := by
  classical
  let μ : Act → World → Nat := fun a w => if h : ∃ m, I m a w then Classical.choose (exists_least h) else 0
  have hμ : ∀ a w, (∃ m, I m a w) → I (μ a w) a w ∧ ∀ m, m < μ a w → ¬ I m a w := by
    intro a w h
    simp only [μ, dif_pos h]
    exact Classical.choose_spec (exists_least h)
  refine wpIn_loop (fun a w => ∃ m, I m a w) μ h0 fun a w h => ?_
  refine wpIn_mono (round _ _ _ (hμ a w h).1) fun e a' w' hq => ?_
  cases e with
  | normal =>
    obtain ⟨m', hlt, hI⟩ := hq
    refine ⟨⟨m', hI⟩, ?_⟩
    have h1 := (hμ a' w' ⟨m', hI⟩).2
    have : ¬ m' < μ a' w' := fun hlt' => h1 m' hlt' hI
    omega
  | _ => exact hq
section
variable {b : Frame} {a : Act} {k : List Item} {cs : List Frame} {w : World}
theorem stepR_scope {c : Code} : step P (lone (b.atR a (.code (.scope c) :: k)) cs w) = .next (lone (b.atR a (.code c :: .inScope c :: k)) cs w) :=
  step_lone_go (by simp [stepG, stepG.exec, Frame.atR])
theorem stepR_inScope {c : Code} : step P (lone (b.atR a (.inScope c :: k)) cs w) = .next (lone (b.atR a k) cs w) :=
  step_lone_go (by simp [stepG, stepG.exec, Frame.atR])
end
theorem wpIn_scope {F : Fence} {n : Nat} {c : Code} {Q : Exit → Act → World → Prop} {a : Act} {w : World} (h : c.wpIn F n P (Exit.noGoto Q) a w) : (Code.scope c).wpIn F n P Q a w := by
  intro b k cs hro hb hr
  obtain ⟨e, a1, w1, hq, harr⟩ := h b (.inScope c :: k) cs hro hb hr
  have s0 : StepsIn (Machine.fenced P F) P (lone (b.atR a (.code (.scope c) :: k)) cs w) (lone (b.atR a (.code c :: .inScope c :: k)) cs w) := .one (fenced_calm (fr := b.atR a (.code (.scope c) :: k)) hb hr rfl) stepR_scope
  cases e with
  | normal => exact ⟨.normal, a1, w1, hq, StepsIn.trans s0 (StepsIn.trans harr (.one (fenced_calm (fr := b.atR a1 (.inScope c :: k)) hb hr rfl) stepR_inScope))⟩
  | exit id =>
    refine ⟨.exit id, a1, w1, hq, fun k' hk => StepsIn.trans s0 (harr.1 k' (by simpa [exitTo] using hk)), fun hs hn => ?_⟩
    obtain ⟨k1, h1, h2⟩ := harr.2 hs (by simpa [exitTo] using hn)
    exact ⟨k1, h1, StepsIn.trans s0 h2⟩
  | goto l => exact hq.elim
  | ret => exact ⟨_, a1, w1, hq, .of_steps s0 harr⟩
  | panic ch => exact ⟨_, a1, w1, hq, .of_steps s0 harr⟩
  | outgrown => exact ⟨_, a1, w1, hq, .of_steps s0 harr⟩
def mkM (ms : List Nat) (ds : List Deferred) : List Deferred := ms.map (fun D => { target := .collected D, args := #[] }) ++ ds
theorem setSt_app : ∀ (st : List (Nat × Kd)) (s : StTy st) (fr : Fr), setSt st s fr = ((st.map (·.1)).zip (argsOf st s)).map (fun p => (p.1, some p.2)) ++ fr
  | [], s, fr => rfl
  | [x], s, fr => rfl
  | x :: y :: r, s, fr => by
    simp only [setSt, argsOf, List.map_cons, List.zip_cons_cons, List.cons_append]
    rw [setSt_app (y :: r) s.2 fr]
    rfl
theorem argsOf_len : ∀ (st : List (Nat × Kd)) (s : StTy st), (argsOf st s).length = st.length
  | [], s => rfl
  | [x], s => rfl
  | x :: y :: r, s => by simp only [argsOf, List.length_cons]; rw [argsOf_len (y :: r) s.2]; rfl
theorem fold_get : ∀ (kv : List (Nat × Value)) (tm : Array Value) (t : Nat) (v : Value) (fr : Fr), (kv.map (·.1)).Nodup → (∀ k ∈ kv.map (·.1), k < tm.size) → fget (kv.map (fun p => (p.1, some p.2)) ++ fr) t = some v →
    ((kv.foldl (fun t p => t.setIfInBounds p.1 p.2) tm)[t]? = some v) ∨ (t ∉ kv.map (·.1) ∧ fget fr t = some v ∧ (kv.foldl (fun t p => t.setIfInBounds p.1 p.2) tm)[t]? = tm[t]?)
  | [], tm, t, v, fr, _, _, h => .inr ⟨by simp, h, rfl⟩
  | (k, u) :: r, tm, t, v, fr, hn, hk, h => by
    simp only [List.map_cons, List.nodup_cons] at hn
    simp at h
    rw [List.foldl_cons]
    have out : ∀ (r : List (Nat × Value)) (tm : Array Value), k ∉ r.map (·.1) → (r.foldl (fun t p => t.setIfInBounds p.1 p.2) tm)[k]? = tm[k]? := by
      intro r
      induction r with
      | nil => intro tm _; rfl
      | cons x q ih =>
        intro tm hx
        simp only [List.map_cons, List.mem_cons, not_or] at hx
        rw [List.foldl_cons, ih _ hx.2, Array.getElem?_setIfInBounds, if_neg (Ne.symm hx.1)]
    by_cases htk : t = k
    · subst htk
      rw [fget_hit] at h
      cases h
      left
      rw [out r _ hn.1]
      have := hk t (by simp)
      simp [this]
    · rw [fget_miss _ _ _ _ htk] at h
      rcases fold_get r (tm.setIfInBounds k u) t v fr hn.2 (fun j hj => by simpa using hk j (by simp [hj])) h with h1 | ⟨h1, h2, h3⟩
      · exact .inl h1
      · refine .inr ⟨by simp [htk]; simpa using h1, h2, ?_⟩
        rw [h3, Array.getElem?_setIfInBounds, if_neg (Ne.symm htk)]
theorem ref_round {st : List (Nat × Kd)} {ps : Array Tmp} {fr : Fr} {a : Act} (hr : Ref nt ds fr a) (hp : psOk nt st ps.toList = true) (s : StTy st) :
    (argsOf st s).toArray.size = ps.size ∧ Ref nt [] (setSt st s fr) { tmps := (ps.zip (argsOf st s).toArray).foldl (fun t (p, v) => t.setIfInBounds p v) a.tmps, defers := [] } := by
  simp only [psOk, Bool.and_eq_true, beq_iff_eq] at hp
  obtain ⟨⟨h1, h2⟩, h3⟩ := hp
  have h2 := nodup_of h2
  have hl : ps.size = st.length := by rw [← Array.length_toList, ← h1, List.length_map]
  have hal := argsOf_len st s
  have e : (ps.zip (argsOf st s).toArray).toList = (st.map (·.1)).zip (argsOf st s) := by
    rw [Array.toList_zip, h1]
  have ef : (ps.zip (argsOf st s).toArray).foldl (fun t (p, v) => t.setIfInBounds p v) a.tmps = ((st.map (·.1)).zip (argsOf st s)).foldl (fun t p => t.setIfInBounds p.1 p.2) a.tmps := by
    rw [← Array.foldl_toList, e]
  have hk : ((st.map (·.1)).zip (argsOf st s)).map (·.1) = st.map (·.1) := List.map_fst_zip (by simp [hal])
  refine ⟨by simp [hal, hl], ?_, rfl, ?_⟩
  · show (_ : Array Value).size = nt
    rw [ef]
    have : ∀ (l : List (Nat × Value)) (tm : Array Value), (l.foldl (fun t p => t.setIfInBounds p.1 p.2) tm).size = tm.size := by
      intro l
      induction l with
      | nil => intro tm; rfl
      | cons x r ih => intro tm; rw [List.foldl_cons, ih]; simp
    rw [this]; exact hr.size
  · intro t v ht
    rw [ef]
    rw [setSt_app] at ht
    rcases fold_get _ a.tmps t v fr (by rw [hk, h1]; exact h2) (fun k hkk => by
      rw [hk, h1] at hkk
      have := List.all_eq_true.1 h3 k hkk
      rw [hr.size]
      exact Nat.lt_of_lt_of_le (Nat.lt_succ_self _) (Nat.le_of_ble_eq_true this)) ht with h4 | ⟨_, h5, h6⟩
    · exact h4
    · rw [h6]; exact hr.val t v h5
theorem V_sound (hN : NoNum P) (an : An) : ∀ (c : Code) (rd : Option Nat) (n : Nat) (ds : List Deferred) (fr : Fr) (ms : List Nat) (w : World) (Q : Exit → Fr → List Nat → World → Prop) (QA : Exit → Act → World → Prop) (a : Act),
    V P an nt c fr ms w Q → Ref nt (mkM ms ds) fr a → (rd ≠ none → noRF c = true) → (∀ e fr' ms' w' a', Q e fr' ms' w' → Ref nt (mkM ms' ds) fr' a' → Keep (mods c) fr fr' → (noRF c = true → ms' = ms) → QA e a' w') → c.wpIn (W rd) n P QA a w := by
  intro c
  induction c with
  | skip => exact fun rd n ds fr ms w Q QA a h hr hrd hq => wpIn_skip (hq _ _ _ _ _ h hr (Keep.refl _ _) fun _ => rfl)
  | region id ops draw =>
    intro rd n ds fr ms w Q QA a h hr hrd hq
    simp only [V] at h
    split at h
    · exact wpIn_region (by
        have := run_upon (rd := rd) (n := n) hN (fun fr w a h hr => hq _ _ _ _ _ h.1 hr h.2 fun _ => rfl) _ _ _ _ a (run_keep _ _ _ _ h fun _ _ h hk => And.intro h hk) hr
        simpa using this)
    · split at h
      · rename_i hok
        refine wpIn_region_draw fun t => ?_
        have h2 : drawAll (oneV (some (an.wraps.contains id)) P nt ops (fun fr' w' => ∀ a', Ref nt (mkM ms ds) fr' a' → QA .normal a' w') fr w.drew) (extsOf (closure [] ops.toList) (turners P ops.toList 0).length (turners P ops.toList 0)) :=
          drawAll_mono (fun eo h => oneV_mono (fun cl σ h => run_keep _ _ _ _ h fun fr' w' h hk a' hr' => hq _ _ _ _ _ h hr' hk fun _ => rfl) h) h
        exact draw_upon hN (fun f f' w hf h a' hr' => h a' ⟨hr'.size, hr'.defers, fun t v ht => hr'.val t v (by rw [← hf t]; exact ht)⟩)
          (fun fr w a h hr => h a hr) hok h2 hr _ t
      · exact h.elim
  | seq x y ihx ihy =>
    intro rd n ds fr ms w Q QA a h hr hrd hq
    have hrx : rd ≠ none → noRF x = true := fun h => (and_true (hrd h)).1
    have hry : rd ≠ none → noRF y = true := fun h => (and_true (hrd h)).2
    have hma : ∀ t ∈ mods x, t ∈ mods (.seq x y) := fun t ht => List.mem_append_left _ ht
    have hmb : ∀ t ∈ mods y, t ∈ mods (.seq x y) := fun t ht => List.mem_append_right _ ht
    simp only [V] at h
    split at h
    · rename_i st hf
      split at h
      · rename_i hst
        obtain ⟨hst, hrf⟩ := and_true hst
        obtain ⟨h⟩ := h
        refine wpIn_seq (ihx _ _ _ _ _ _ _ _ _ h hr hrx fun e fr' ms' w' a' hh hr' hk hms => ?_)
        obtain rfl := hms hrf
        cases e with
        | normal =>
          obtain ⟨s, h3, hr3⟩ := ref_set hst hr' hk hh
          exact ihy _ _ _ _ _ _ _ _ _ h3 hr3 hry fun e fr'' ms'' w'' a'' h hr hk' hms' => hq _ _ _ _ _ h hr (Keep.trans ((keep_set hst s fr).more hma) (hk'.more hmb)) fun hh => hms' (and_true hh).2
        | _ => exact hq _ _ _ _ _ hh hr' (hk.more hma) fun _ => rfl
      · exact h.elim
    · refine wpIn_seq (ihx _ _ _ _ _ _ _ _ _ h hr hrx fun e fr' ms' w' a' hh hr' hk hms => ?_)
      cases e with
      | normal => exact ihy _ _ _ _ _ _ _ _ _ hh hr' hry fun e fr'' ms'' w'' a'' h hr hk' hms' => hq _ _ _ _ _ h hr (Keep.trans (hk.more hma) (hk'.more hmb)) fun hh => (hms' (and_true hh).2).trans (hms (and_true hh).1)
      | _ => exact hq _ _ _ _ _ hh hr' (hk.more hma) fun hh => hms (and_true hh).1
  | cond c x y ihx ihy =>
    intro rd n ds fr ms w Q QA a h hr hrd hq
    simp only [V] at h
    split at h
    · rename_i b hb
      cases b with
      | true => exact wpIn_cond_true (hr.ev hb) (ihx _ _ _ _ _ _ _ _ _ h hr (fun h => (and_true (hrd h)).1) fun e fr' ms' w' a' h hr hk hms => hq _ _ _ _ _ h hr (hk.more fun t ht => List.mem_append_left _ ht) fun hh => hms (and_true hh).1)
      | false => exact wpIn_cond_false (hr.ev hb) (ihy _ _ _ _ _ _ _ _ _ h hr (fun h => (and_true (hrd h)).2) fun e fr' ms' w' a' h hr hk hms => hq _ _ _ _ _ h hr (hk.more fun t ht => List.mem_append_right _ ht) fun hh => hms (and_true hh).2)
    · exact h.elim
  | block id c ih =>
    intro rd n ds fr ms w Q QA a h hr hrd hq
    simp only [V] at h
    refine wpIn_block (ih _ _ _ _ _ _ _ _ _ h hr hrd fun e fr' ms' w' a' hh hr' hk hms => ?_)
    cases e with
    | exit id' =>
      simp only at hh
      simp only [Exit.inBlock]
      split at hh
      · rename_i hb
        rw [if_pos (Nat.eq_of_beq_eq_true hb)]
        exact hq _ _ _ _ _ hh hr' hk hms
      · rename_i hb
        rw [if_neg (fun e => by subst e; simp at hb)]
        exact hq _ _ _ _ _ hh hr' hk hms
    | _ => exact hq _ _ _ _ _ hh hr' hk hms
  | loop c ih =>
    intro rd n ds fr ms w Q QA a h hr hrd hq
    simp only [V] at h
    split at h
    · rename_i st hf
      split at h
      · rename_i hst
        split at h
        · rename_i hrf
          obtain ⟨s0, ⟨⟨I, ⟨m0, h0⟩, hround⟩⟩, hr0⟩ := ref_set hst hr (Keep.refl (mods c) fr) h
          refine wpIn_loop_n (fun m a w => ∃ s, I m s w ∧ Ref nt (mkM ms ds) (setSt st s (havoc (mods c) fr)) a) ⟨m0, s0, h0, hr0⟩ fun m a w hI => ?_
          obtain ⟨s, hI, hra⟩ := hI
          refine ih _ _ _ _ _ _ _ _ _ (hround m s w hI) hra (fun _ => hrf) fun e fr' ms' w' a' hh hr' hk hms => ?_
          obtain rfl := hms hrf
          cases e with
          | normal =>
            obtain ⟨s', ⟨m', hlt, hI'⟩, hr3⟩ := ref_set hst hr' (Keep.trans (keep_set hst s fr) hk) hh
            exact ⟨m', hlt, s', hI', hr3⟩
          | _ => exact hq _ _ _ _ _ hh hr' (Keep.trans (keep_set hst s fr) hk) fun _ => rfl
        · rename_i hrf
          obtain ⟨s0, ⟨⟨I, ⟨m0, h0⟩, hround⟩⟩, hr0⟩ := ref_set hst hr (Keep.refl (mods c) fr) h
          refine wpIn_loop_n (fun m a w => ∃ s : StTy st × List Nat, I m s w ∧ Ref nt (mkM s.2 ds) (setSt st s.1 (havoc (mods c) fr)) a) ⟨m0, (s0, ms), h0, hr0⟩ fun m a w hI => ?_
          obtain ⟨s, hI, hra⟩ := hI
          have hrf : ¬noRF c = true := by simp [hrf]
          refine ih _ _ _ _ _ _ _ _ _ (hround m s w hI) hra (fun hn => absurd (hrd hn) hrf) fun e fr' ms' w' a' hh hr' hk hms => ?_
          cases e with
          | normal =>
            obtain ⟨s', ⟨m', hlt, hI'⟩, hr3⟩ := ref_set hst hr' (Keep.trans (keep_set hst s.1 fr) hk) hh
            exact ⟨m', hlt, (s', ms'), hI', hr3⟩
          | _ => exact hq _ _ _ _ _ hh hr' (Keep.trans (keep_set hst s.1 fr) hk) fun hh => absurd hh hrf
      · exact h.elim
    · exact h.elim
  | exit id => exact fun rd n ds fr ms w Q QA a h hr hrd hq => wpIn_exit (hq _ _ _ _ _ h hr (Keep.refl _ _) fun _ => rfl)
  | scope c ih =>
    intro rd n ds fr ms w Q QA a h hr hrd hq
    simp only [V] at h
    refine wpIn_scope (ih _ _ _ _ _ _ _ _ _ h hr hrd fun e fr' ms' w' a' hh hr' hk hms => ?_)
    cases e with
    | goto l => exact hh
    | _ => exact hq _ _ _ _ _ hh hr' hk hms
  | label l => exact fun rd n ds fr ms w Q QA a h hr hrd hq => wpIn_label (hq _ _ _ _ _ h hr (Keep.refl _ _) fun _ => rfl)
  | ret => exact fun rd n ds fr ms w Q QA a h hr hrd hq => wpIn_ret (hq _ _ _ _ _ h hr (Keep.refl _ _) fun _ => rfl)
  | goto l => exact fun rd n ds fr ms w Q QA a h hr hrd hq => h.elim
  | refuse s => exact fun rd n ds fr ms w Q QA a h hr hrd hq => h.elim
  | rangeFunc g ps assign body iha ihb =>
    intro rd n ds fr ms w Q QA a h hr hrd hq
    have hno : rd = none := Classical.byContradiction fun hh => by have := hrd hh; cases this
    subst hno
    simp only [V] at h
    split at h
    · rename_i st hf
      split at h
      · rename_i hst
        obtain ⟨hps, hrfs⟩ := and_true hst
        obtain ⟨hrfa, hrfb⟩ := and_true hrfs
        split at h
        · rename_i v hg
          obtain ⟨gf, fi, ca, rfl, ⟨fn, cd, hfn, hcd⟩, h⟩ := h
          refine wpIn_rangeFunc ?_
          intro f0 hf0
          obtain ⟨rec, hrec⟩ : ∃ rec : LoopState → Option Code → Obj, rec = fun st pe => .loop { state := st, pending := pe, fn := f0, tmps := a.tmps, params := ps, assign, body, defers := w.heap.size } := ⟨_, rfl⟩
          have hrun := (h.run w.heap.size (w.heap.size + 1) _ ((w.alloc (.deferred (some []))).alloc (rec .ready none)) rec ⟨rfl, rfl⟩ ⟨by simp, rfl⟩ (by
            intro s w' R hround hready
            obtain ⟨hsz, href⟩ := ref_round hr hps s
            show YieldV P (w.heap.size + 1) (argsOf st s) w' R
            refine ⟨fun rd' n' => ?_⟩
            rw [hrec] at hready
            refine ⟨f0, _, assign, body, run_yield (P := P) hready hsz, roundIn_of_wpIn (W_fn _ _) ?_⟩
            refine iha (some (w.heap.size + 1)) n' [] _ _ _ _ _ _ hround href (fun _ => hrfa) fun e fr1 ms1 w1 a1 hh hr1 _ hms => ?_
            obtain rfl := hms hrfa
            cases e with
            | normal =>
              obtain ⟨h1, h2⟩ := hh
              rw [hrec] at h1
              refine ⟨_, run_beginRound (P := P) h1 rfl, ?_⟩
              refine ihb (some (w.heap.size + 1)) n' [] _ _ _ _ _ _ (by rw [hrec] at h2; exact h2) hr1 (fun _ => hrfb) fun e fr2 ms2 w2 a2 hh hr2 _ _ => ?_
              cases e with
              | normal => exact ⟨_, _, run_endRound (P := P) none hh.1, hh.2⟩
              | ret => exact ⟨_, _, run_endRound (P := P) (some .ret) hh.1, hh.2⟩
              | exit id => exact ⟨_, _, run_endRound (P := P) (some (.exit id)) hh.1, hh.2⟩
              | _ => exact hh.elim
            | _ => exact hh.elim)).run
          have h1 := call_run (args := (fi.toList ++ [Value.func (.yield (w.heap.size + 1)) #[] #[]] ++ ca.toList).toArray) (w := (w.alloc (.deferred (some []))).alloc (rec .ready none)) hN hfn hcd
          have ea : fi ++ #[Value.func (.yield (w.heap.size + 1)) #[] #[]] ++ ca = (fi.toList ++ [Value.func (.yield (w.heap.size + 1)) #[] #[]] ++ ca.toList).toArray := by
            apply Array.toList_inj.1; simp
          refine ⟨w.heap.size + 1, [{ target := .collected w.heap.size, args := #[] }], (w.alloc (.deferred (some []))).alloc (rec .ready none), { target := .fn (.func gf) ca, args := fi ++ #[Value.func (.yield (w.heap.size + 1)) #[] #[]] }, (w.alloc (.deferred (some []))).alloc (rec .ready none), gf, _, (w.alloc (.deferred (some []))).alloc (rec .ready none), ?_, ?_, fun f' _ => W_fn _ _, ?_, fun hd => by simp [W_depth] at hd, (callsIn_W hrun).mono ?_⟩
          · rw [hrec]; exact run_enterLoop_outer (P := P) _ _ _ _ _
          · simp only [resolve, hr.ev hg]
            simp [go_sem]
          · simp only [invoke, ea, h1]
          rintro e w3 ⟨v, rfl, hh⟩
          have href : Ref nt (mkM (w.heap.size :: ms) ds) fr { a with defers := [{ target := .collected w.heap.size, args := #[] }] ++ a.defers } := ⟨hr.size, by show _ ++ a.defers = _; rw [hr.defers]; rfl, hr.val⟩
          rw [hrec] at hh
          rcases hh with ⟨g1, g2⟩ | ⟨g1, g2⟩ | ⟨id, g1, g2⟩
          · exact ⟨none, _, run_endLoop (P := P) g1 (by simp), hq _ _ _ _ _ g2 href (Keep.refl _ _) fun hh => by cases hh⟩
          · split at g2
            · exact ⟨some .ret, _, run_endLoop (P := P) g1 (by simp), wpIn_ret (hq _ _ _ _ _ g2 href (Keep.refl _ _) fun hh => by cases hh)⟩
            · exact g2.elim
          · split at g2
            · exact ⟨some (.exit id), _, run_endLoop (P := P) g1 (by simp), wpIn_exit (hq _ _ _ _ _ g2 href (Keep.refl _ _) fun hh => by cases hh)⟩
            · exact g2.elim
        · exact h.elim
      · exact h.elim
    · exact h.elim
theorem res_one {fr : Fr} {w : World} {a : Act} (hr : Ref nt ds fr a) : ∀ {rs : List ResultVar} {K : List Value → Prop}, resV P fr w rs K →
    ∃ l, K l ∧ l.length = rs.length ∧ (rs.mapM (m := Sem) fun
      | .tmp t => pure (a.tmps.getD t undef)
      | .cell x t => do loadVar t (← asAddr (a.tmps.getD x undef))).run P w = .ok l w
  | [], K, h => ⟨[], h, rfl, rfl⟩
  | .tmp t :: r, K, h => by
    simp only [resV] at h
    obtain ⟨v, hv, h⟩ := onV_some h
    obtain ⟨l, h, hl, hrun⟩ := res_one hr h
    refine ⟨v :: l, h, by simp [hl], ?_⟩
    have hv' := hr.val t v hv
    simp only [List.mapM_cons, Sem.run_bind, Sem.run_pure, Result.andThen_ok, hrun]
    simp [Array.getD_eq_getD_getElem?, hv']
  | .cell x t :: r, K, h => by
    simp only [resV] at h
    split at h
    · rename_i p hx
      obtain ⟨ad, rfl, h1⟩ := onP_some h
      obtain ⟨v, ⟨hld, h2⟩, -⟩ := exV_one h1
      obtain ⟨l, h, hl, hrun⟩ := res_one hr h2
      refine ⟨v :: l, h, by simp [hl], ?_⟩
      have hx' := hr.val x _ hx
      have hld' : (loadVar t ad).run P w = .ok v w := hld
      have e1 : (do loadVar t (← asAddr (a.tmps.getD x undef)) : Sem Value).run P w = .ok v w := by
        simp [Array.getD_eq_getD_getElem?, hx', asAddr, hld']
      rw [List.mapM_cons, Sem.run_bind]
      simp only [e1, Result.andThen_ok, Sem.run_bind, hrun, Sem.run_pure]
    · exact h.elim
theorem ret_post {fn : Func} {fr : Fr} {w : World} {a : Act} {ds : List Deferred} {R : Ending → World → Prop} (hr : Ref nt ds fr a) (h : retV P fn fr w R) : ∃ v, (results fn a.tmps).run P w = .ok v w ∧ R (.returned v) w := by
  obtain ⟨l, h, hl, hrun⟩ := res_one hr h
  have hm : (fn.results.mapM (m := Sem) fun
      | .tmp t => pure (a.tmps.getD t undef)
      | .cell x t => do loadVar t (← asAddr (a.tmps.getD x undef))).run P w = .ok l.toArray w := by
    rw [Array.mapM_eq_mapM_toList]
    simp only [Sem.run_map, hrun, Result.andThen_ok]
  unfold results
  rw [Sem.run_bind]
  refine ⟨_, (congrArg (fun r => Result.andThen r _) hm).trans rfl, ?_⟩
  match l, h with
  | [v], h => exact h
  | [], h => exact h
  | _ :: _ :: _, h =>
    simp only [List.size_toArray, List.length_cons]
    rw [dif_neg (by omega)]
    exact h
theorem shut_post {F : Fence} {n : Nat} {fn : Func} {fr : Fr} {R : Ending → World → Prop} {a : Act} {ds : List Deferred} (hr : Ref nt ds fr a) : ∀ (ms : List Nat) (w : World), shutV P fn fr ms w R → LeavesInM F n P fn a.tmps R (mkM ms []) .returning w
  | [], w, h => by
    obtain ⟨v, h1, h2⟩ := ret_post hr h
    exact ⟨v, h1, h2⟩
  | D :: ms, w, h => by
    obtain ⟨w1, ⟨h1, rfl⟩, h2⟩ := h
    exact ⟨by simp, .inl ⟨D, _, rfl, run_takeDeferred h1, shut_post hr ms _ h2⟩⟩
theorem shutV_all {fn : Func} {fr : Fr} {R : Ending → World → Prop} {w1 : World} (hr : retV P fn fr w1 R) : ∀ (ms : List Nat) (w : World), ShutAll ms w w1 → shutV P fn fr ms w R
  | [], w, h => by
    have h : w1 = w := h
    subst h; exact hr
  | D :: ms, w, h => by
    obtain ⟨w', h1, h2⟩ := h
    exact ⟨w', h1, shutV_all hr ms w' h2⟩
theorem endV_shut {fn : Func} {c : Code} {fr : Fr} {ms : List Nat} {w : World} {R : Ending → World → Prop} (h : endV P fn c fr ms w R) : shutV P fn fr ms w R := by
  unfold endV at h
  split at h
  · exact h
  · obtain ⟨w1, h1, h2⟩ := h
    exact shutV_all h2 ms w h1
theorem argFr_get : ∀ (l : List Value) (i t : Nat) (v : Value), fget (argFr i l) t = some v → ∃ j, t = i + j ∧ l[j]? = some v
  | [], i, t, v, h => by simp [argFr, fget_nil] at h
  | x :: r, i, t, v, h => by
    simp only [argFr] at h
    by_cases ht : t = i
    · subst ht
      rw [fget_hit] at h
      exact ⟨0, rfl, by simpa using h⟩
    · rw [fget_miss _ _ _ _ ht] at h
      obtain ⟨j, rfl, hj⟩ := argFr_get r (i + 1) t v h
      exact ⟨j + 1, by omega, by simpa using hj⟩
theorem ref_args {fn : Func} {args : List Value} (h0 : decide (args.length ≤ fn.ntmps) = true) :
    Ref fn.ntmps [] (argFr 0 args) { tmps := args.toArray ++ Array.replicate (fn.ntmps - args.toArray.size) undef, defers := [] } := by
  have h0 := of_decide_eq_true h0
  refine ⟨by simp; omega, rfl, fun t v h => ?_⟩
  obtain ⟨j, rfl, hj⟩ := argFr_get args 0 t v h
  have hlt : j < args.length := (List.getElem?_eq_some_iff.1 hj).1
  simp
  rw [Array.getElem?_append_left (by simpa using hlt)]
  simpa using hj
theorem calls_of_bodyV (hN : NoNum P) {an : An} {f : FuncId} {fn : Func} {args : List Value} {w : World} {R : Ending → World → Prop} (hf : P.funcs[f]? = some fn) (h0 : decide (args.length ≤ fn.ntmps) = true)
    (h : bodyV P an fn args w R) : Calls P f args.toArray w R := by
  simp only [bodyV] at h
  split at h
  · exact h.elim
  · rename_i c hc
    refine (callsIn_wide (n := 0)).1 (callsIn_of_wp_marks hf hc trivial ?_ rfl)
    refine V_sound hN an c none 0 [] _ _ _ _ _ _ h (ref_args h0) (fun h => absurd rfl h) fun e fr' ms' w' a' hh hr' _ _ => ?_
    cases e with
    | normal =>
      show LeavesInM _ _ _ _ _ _ a'.defers _ _
      rw [hr'.defers]; exact shut_post hr' _ _ (endV_shut hh)
    | ret =>
      show LeavesInM _ _ _ _ _ _ a'.defers _ _
      rw [hr'.defers]; exact shut_post hr' _ _ (endV_shut hh)
    | _ => exact hh.elim
end
end Go.Vc
namespace Go.Vc
open Go
theorem br_mk {b : Bool} {x y : Prop} (h1 : b = true → x) (h2 : b = false → y) : br b x y := by
  cases b with
  | true => exact h1 rfl
  | false => exact h2 rfl
theorem br_dec {p : Prop} [Decidable p] {x y : Prop} (h1 : p → x) (h2 : ¬ p → y) : br (decide p) x y :=
  br_mk (fun h => h1 (of_decide_eq_true h)) (fun h => h2 (of_decide_eq_false h))
theorem br_not {b : Bool} {x y : Prop} (h1 : b = false → x) (h2 : b = true → y) : br (!b) x y := by
  cases b with
  | true => exact h2 rfl
  | false => exact h1 rfl
theorem br_ndec {p : Prop} [Decidable p] {x y : Prop} (h1 : ¬ p → x) (h2 : p → y) : br (!decide p) x y :=
  br_not (fun h => h1 (of_decide_eq_false h)) (fun h => h2 (of_decide_eq_true h))
theorem br_true {x y : Prop} (h : x) : br true x y := h
theorem br_false {x y : Prop} (h : y) : br false x y := h
theorem onP_mk {p : Option Addr} {a : Addr} {k : Addr → Prop} (h : p = some a) (hk : k a) : onP p k := by subst h; exact hk
theorem LoopP.mk {St : Type} {body : St → World → (St → World → Prop) → Prop} {s : St} {w : World} (I : Nat → St → World → Prop) (n : Nat) (h0 : I n s w)
    (h : ∀ n s w next, I n s w → (∀ m s' w', m < n → I m s' w' → next s' w') → body s w next) : LoopP body s w :=
  ⟨⟨I, ⟨n, h0⟩, fun n s w hI => h n s w _ hI fun m s' w' hlt hI' => ⟨m, hlt, hI'⟩⟩⟩
theorem JoinP.mk {St : Type} {R : St → World → Prop} {X : (St → World → Prop) → Prop} (J : St → World → Prop) (hR : ∀ s w, J s w → R s w) (hX : ∀ R' : St → World → Prop, (∀ s w, J s w → R' s w) → X R') : JoinP R X :=
  ⟨hX R hR⟩
theorem callV {P : Program} {f : FuncId} {args : List Value} {w : World} {R R' : Ending → World → Prop} (h : Calls P f args.toArray w R) (hr : ∀ e w', R e w' → R' e w') : CallV P f args w R' :=
  ⟨Calls.mono h hr⟩
theorem inR64 {z : Int} : inR .i64 z ↔ -9223372036854775808 ≤ z ∧ z ≤ 9223372036854775807 := by
  simp [inR, IntKind.min, IntKind.max, IntKind.signed, IntKind.bits]
theorem inR8 {z : Int} : inR .u8 z ↔ 0 ≤ z ∧ z ≤ 255 := by
  simp [inR, IntKind.min, IntKind.max, IntKind.signed, IntKind.bits]
theorem wrap64_id {z : Int} (h : -9223372036854775808 ≤ z ∧ z ≤ 9223372036854775807) : IntKind.i64.wrap z = z := wrap_inR (inR64.2 h)
theorem wrap8_id {z : Int} (h : 0 ≤ z ∧ z ≤ 255) : IntKind.u8.wrap z = z := wrap_inR (inR8.2 h)
def Chg (S : List Nat) (w w' : World) : Prop :=
  w'.os = w.os ∧ w'.tape = w.tape ∧ w'.output = w.output ∧ w.heap.size ≤ w'.heap.size ∧ ∀ k, k < w.heap.size → k ∉ S → w'.heap[k]? = w.heap[k]?
theorem Chg.refl (S : List Nat) (w : World) : Chg S w w := ⟨rfl, rfl, rfl, Nat.le_refl _, fun _ _ _ => rfl⟩
theorem Chg.size {S : List Nat} {w w' : World} (h : Chg S w w') : w.heap.size ≤ w'.heap.size := h.2.2.2.1
theorem Chg.trans {S T U : List Nat} {a b c : World} (h : Chg S a b) (h' : Chg T b c) (hS : ∀ k ∈ S, k ∈ U) (hT : ∀ k ∈ T, k ∈ U ∨ a.heap.size ≤ k) : Chg U a c := by
  refine ⟨h'.1.trans h.1, h'.2.1.trans h.2.1, h'.2.2.1.trans h.2.2.1, Nat.le_trans h.size h'.size, fun k hk hu => ?_⟩
  have h1 := h.2.2.2.2 k hk (fun hs => hu (hS k hs))
  have h2 := h'.2.2.2.2 k (Nat.lt_of_lt_of_le hk h.size) (fun ht => by
    rcases hT k ht with h3 | h3
    · exact hu h3
    · omega)
  exact h2.trans h1
theorem Chg.ext {S : List Nat} {a b c : World} (h : Chg S a b) (h' : Chg [] b c) : Chg S a c := h.trans h' (fun k hk => hk) (fun k hk => by cases hk)
theorem Chg.own {S : List Nat} {a b c : World} {g : Nat} (h : Chg S a b) (h' : Chg [g] b c) (hg : a.heap.size ≤ g ∨ g ∈ S) : Chg S a c :=
  h.trans h' (fun k hk => hk) (fun k hk => by
    rw [List.mem_singleton] at hk; subst hk
    exact hg.symm)
theorem Chg.more {S T : List Nat} {a b : World} (h : Chg S a b) (hs : ∀ k ∈ S, k ∈ T) : Chg T a b := ⟨h.1, h.2.1, h.2.2.1, h.size, fun k hk ht => h.2.2.2.2 k hk fun h' => ht (hs k h')⟩
theorem Chg.block {S : List Nat} {w w' : World} (h : Chg S w w') {k : Nat} {o : Obj} (hk : w.heap[k]? = some o) (hs : k ∉ S) : w'.heap[k]? = some o := by
  rw [h.2.2.2.2 k (Array.getElem?_eq_some_iff.1 hk).1 hs]; exact hk
theorem Chg.cell {S : List Nat} {w w' : World} (h : Chg S w w') {a : Addr} {v : Value} (hk : w.cell? a = some v) (hs : a.block ∉ S) : w'.cell? a = some v := by
  have hlt := World.block_lt_of_cell? w a hk
  rw [World.cell?_of_block (h.2.2.2.2 _ hlt hs)]; exact hk
theorem Chg.drew {S : List Nat} {a b : World} (h : Chg S a b) : Chg S a b.drew := h
theorem alloc_old (w : World) (o : Obj) (k : Nat) (h : k < w.heap.size) : (w.alloc o).heap[k]? = w.heap[k]? := by
  show (w.heap.push o)[k]? = _
  rw [Array.getElem?_push, if_neg (by omega)]
theorem alloc_new (w : World) (o : Obj) : (w.alloc o).heap[w.heap.size]? = some o := by
  show (w.heap.push o)[w.heap.size]? = _
  simp
theorem New.chg {w w1 : World} {o : Obj} {b : Nat} (h : New w o b w1) : Chg [] w w1 := by
  obtain ⟨rfl, rfl⟩ := h
  exact ⟨rfl, rfl, rfl, by simp, fun k hk _ => alloc_old w o k hk⟩
theorem New.blk {w w1 : World} {o : Obj} {b : Nat} (h : New w o b w1) : w1.heap[b]? = some o := by
  obtain ⟨rfl, rfl⟩ := h
  exact alloc_new w o
theorem New.lt {w w1 : World} {o : Obj} {b : Nat} (h : New w o b w1) : b < w1.heap.size := (Array.getElem?_eq_some_iff.1 h.blk).1
def Blk (w : World) (b : Nat) (cs : List Value) (T : TypeId) : Prop := w.heap[b]? = some (.cells cs.toArray T (0, 0))
theorem New.cells {w w1 : World} {cs : List Value} {T : TypeId} {b : Nat} (h : New w (.cells cs.toArray T) b w1) : Blk w1 b cs T := h.blk
theorem Blk.chg {w w' : World} {b : Nat} {cs : List Value} {T : TypeId} {S : List Nat} (h : Blk w b cs T) (hc : Chg S w w') (hs : b ∉ S) : Blk w' b cs T := hc.block h hs
theorem Blk.lt {w : World} {b : Nat} {cs : List Value} {T : TypeId} (h : Blk w b cs T) : b < w.heap.size := (Array.getElem?_eq_some_iff.1 h).1
theorem Blk.cell {w : World} {b : Nat} {cs : List Value} {T : TypeId} (h : Blk w b cs T) {o : Nat} {v : Value} (hv : cs[o]? = some v) : w.cell? ⟨b, o, none⟩ = some v := by
  have h' : w.heap[b]? = some (.cells cs.toArray T (0, 0)) := h
  simp [World.cell?, h', hv]
def aggB (P : Program) (t : TypeId) : Option Bool := match P.underlying t with
  | some (.struct _) | some (.array _ _) => some true
  | some _ => some false
  | none => none
theorem run_isAgg {P : Program} {t : TypeId} {b : Bool} (h : aggB P t = some b) (w : World) : (isAgg t).run P w = .ok b w := by
  unfold aggB at h
  cases hu : P.underlying t with
  | none => rw [hu] at h; cases h
  | some d =>
    rw [hu] at h
    simp only [isAgg, Sem.run_bind, run_und hu, Result.andThen_ok]
    cases d <;> cases h <;> rfl
theorem ld_cell {P : Program} {t : TypeId} {w : World} {a : Addr} {v : Value} (hu : aggB P t = some false) (h : w.cell? a = some v) : Ld P t w a v := by
  simp only [Ld, loadVar, Sem.run_bind, run_isAgg hu, Result.andThen_ok, Bool.false_eq_true, if_false, run_load, h]
theorem ld_agg {P : Program} {t : TypeId} {w : World} {a : Addr} {vs : List Value} (hu : aggB P t = some true) (hs : sizeV P t = some vs.length) (h : ∀ j v, vs[j]? = some v → w.cell? (a.add j) = some v) : Ld P t w a (.agg vs.toArray) := by
  simp only [Ld, loadVar, Sem.run_bind, run_isAgg hu, Result.andThen_ok, if_true, run_size hs, Sem.run_map, Sem.run_bind, run_loadCells_list w a vs h, Sem.run_pure]
theorem Blk.ld {P : Program} {t : TypeId} {w : World} {b : Nat} {cs : List Value} {T : TypeId} (h : Blk w b cs T) {o : Nat} {v : Value} (hu : aggB P t = some false) (hv : cs[o]? = some v) : Ld P t w ⟨b, o, none⟩ v :=
  ld_cell hu (h.cell hv)
theorem add_lit (b o j : Nat) : (⟨b, o, none⟩ : Addr).add j = ⟨b, o + j, none⟩ := by
  unfold Addr.add; split <;> simp_all
theorem Blk.ldA {P : Program} {t : TypeId} {w : World} {b : Nat} {cs : List Value} {T : TypeId} (h : Blk w b cs T) {o : Nat} {vs : List Value} (hu : aggB P t = some true) (hs : sizeV P t = some vs.length)
    (hv : (cs.drop o).take vs.length = vs) : Ld P t w ⟨b, o, none⟩ (.agg vs.toArray) := by
  refine ld_agg hu hs fun j v hj => ?_
  rw [add_lit]
  refine h.cell ?_
  rw [← hv] at hj
  rw [List.getElem?_take] at hj
  split at hj
  · simpa using hj
  · cases hj
def setB (w : World) (b : Nat) (o : Obj) : World := { w with heap := w.heap.setIfInBounds b o }
theorem setB_chg (w : World) (b : Nat) (o : Obj) : Chg [b] w (setB w b o) :=
  ⟨rfl, rfl, rfl, by simp [setB], fun k hk hs => by
    simp only [setB, Array.getElem?_setIfInBounds]
    rw [if_neg (by simpa using Ne.symm (by simpa using hs))]⟩
theorem setB_at {w : World} {b : Nat} {o : Obj} (h : b < w.heap.size) : (setB w b o).heap[b]? = some o := by
  simp [setB, h]
theorem setCell_setB {w : World} {b : Nat} {cs : List Value} {T : TypeId} {fz : Nat × Nat} (h : w.heap[b]? = some (.cells cs.toArray T fz)) (o : Nat) (v : Value) :
    w.setCell ⟨b, o, none⟩ v = setB w b (.cells (cs.set o v).toArray T fz) := by
  simp only [World.setCell, setB]
  congr 1
  apply Array.ext_getElem?
  intro k
  rw [Array.getElem?_modify, Array.getElem?_setIfInBounds]
  split
  · rename_i hk; subst hk
    rw [if_pos (Array.getElem?_eq_some_iff.1 h).1, h]
    simp
  · rfl
theorem setB_setB (w : World) (b : Nat) (o o' : Obj) : setB (setB w b o) b o' = setB w b o' := by
  simp only [setB]
  congr 1
  apply Array.ext_getElem?
  intro k
  simp only [Array.getElem?_setIfInBounds]
  split
  · simp
  · rfl
theorem run_storeCells_blk {P : Program} {b : Nat} {T : TypeId} {fz : Nat × Nat} : ∀ (vs : List Value) (w : World) (cs : List Value) (a : Addr) (o i : Nat), a.add i = ⟨b, o, none⟩ → (∀ j, a.add (i + j) = ⟨b, o + j, none⟩) →
    w.heap[b]? = some (.cells cs.toArray T fz) → o + vs.length ≤ cs.length → (∀ k, o ≤ k → k < o + vs.length → (decide (fz.1 ≤ k) && decide (k < fz.2)) = false) → (∀ u ∈ vs, u.oneCell' = true) →
    (storeCells a vs i).run P w = .ok () (if vs = [] then w else setB w b (.cells (over vs o cs).toArray T fz))
  | [], w, cs, a, o, i, ha, haj, hb, hl, hf, h1 => by simp [storeCells]
  | v :: r, w, cs, a, o, i, ha, haj, hb, hl, hf, h1 => by
    simp only [List.length_cons] at hl hf
    simp only [storeCells, Sem.run_bind]
    have hlt : o < cs.length := by omega
    have hcell : w.cell? ⟨b, o, none⟩ = some cs[o] := by simp [World.cell?, hb, hlt]
    have hfr : w.frozen? ⟨b, o, none⟩ = false := by
      have := hf o (Nat.le_refl _) (by omega)
      obtain ⟨f1, f2⟩ := fz
      simpa [World.frozen?, hb] using this
    have hst : (store (a.add i) v).run P w = .ok () (w.setCell ⟨b, o, none⟩ v) := by
      rw [ha, run_store P w _ v _ (h1 v (List.mem_cons_self ..))]
      simp [hcell, hfr]
    rw [hst]
    simp only [Result.andThen_ok]
    have hb2 : (w.setCell ⟨b, o, none⟩ v).heap[b]? = some (.cells (cs.set o v).toArray T fz) := by
      rw [setCell_setB hb]; exact setB_at (Array.getElem?_eq_some_iff.1 hb).1
    rw [run_storeCells_blk r _ (cs.set o v) a (o + 1) (i + 1) (haj 1) (fun j => by rw [show i + 1 + j = i + (1 + j) by omega, haj, show o + (1 + j) = o + 1 + j by omega]) hb2 (by simp; omega) (fun k h1' h2' => hf k (by omega) (by omega)) (fun u hu => h1 u (List.mem_cons_of_mem _ hu))]
    rw [setCell_setB hb, if_neg (List.cons_ne_nil _ _), over_cons v r o cs hlt]
    split
    · rename_i hr; subst hr; simp [over_nil]
    · rw [setB_setB]
theorem Blk.st {P : Program} {t : TypeId} {w : World} {b : Nat} {cs : List Value} {T : TypeId} (h : Blk w b cs T) {o : Nat} {v : Value} (hs : sizeV P t = some v.cells.size) (hv : v.cells.toList.all (·.oneCell') = true) (hl : o + v.cells.size ≤ cs.length) :
    ∃ w1, St P t w ⟨b, o, none⟩ v w1 ∧ Blk w1 b (over v.cells.toList o cs) T ∧ Chg [b] w w1 := by
  have hrun := run_storeCells_blk (P := P) (fz := (0, 0)) v.cells.toList w cs ⟨b, o, none⟩ o 0 rfl (fun j => by simp [add_lit]) h (by simpa using hl) (fun k _ _ => by simp) (fun u hu => List.all_eq_true.1 hv u hu)
  have e : (storeVar t ⟨b, o, none⟩ v).run P w = (storeCells ⟨b, o, none⟩ v.cells.toList).run P w := by
    simp only [storeVar, Sem.run_bind, run_size hs, Result.andThen_ok]
    rw [if_neg (by simp)]
  refine ⟨_, e.trans hrun, ?_, ?_⟩
  · split
    · rename_i hn; rw [hn, over_nil]; exact h
    · exact setB_at h.lt
  · split
    · exact Chg.refl _ _
    · exact setB_chg _ _ _
def Thaw (fz : Nat × Nat) (n : Nat) : Prop := ∀ k, k < n → (decide (fz.1 ≤ k) && decide (k < fz.2)) = false
theorem Thaw.zero (n : Nat) : Thaw (0, 0) n := fun k _ => by simp
theorem Thaw.behind (n m : Nat) : Thaw (n, m) n := fun k hk => by
  have : ¬ n ≤ k := by omega
  simp [this]
def Own (w : World) (base : Nat) (e : TypeId) (sz : Nat) (a : Option Addr) (n c : Nat) (xs : List Value) : Prop :=
  xs.length = n * sz ∧ ((a = none ∧ n = 0 ∧ c = 0) ∨ ∃ g cur fz, a = some ⟨g, 0, none⟩ ∧ base ≤ g ∧ w.heap[g]? = some (.cells cur e fz) ∧ Thaw fz cur.size ∧ n ≤ c ∧ c ≤ maxLen ∧ c * sz ≤ cur.size ∧ cur.toList.take (n * sz) = xs)
def blks (a : Option Addr) : List Nat := match a with
  | some a => [a.block]
  | none => []
theorem Own.nil (w : World) (base : Nat) (e : TypeId) (sz : Nat) : Own w base e sz none 0 0 [] := ⟨by simp, .inl ⟨rfl, rfl, rfl⟩⟩
theorem Own.len {w : World} {base : Nat} {e : TypeId} {sz : Nat} {a : Option Addr} {n c : Nat} {xs : List Value} (h : Own w base e sz a n c xs) : xs.length = n * sz := h.1
theorem Own.le {w : World} {base : Nat} {e : TypeId} {sz : Nat} {a : Option Addr} {n c : Nat} {xs : List Value} (h : Own w base e sz a n c xs) : n ≤ c ∧ c ≤ maxLen := by
  rcases h.2 with ⟨_, rfl, rfl⟩ | ⟨g, cur, _, _, _, _, _, h1, h2, _⟩
  · exact ⟨Nat.le_refl _, by simp [maxLen]⟩
  · exact ⟨h1, h2⟩
theorem Own.chg {w w' : World} {base : Nat} {e : TypeId} {sz : Nat} {a : Option Addr} {n c : Nat} {xs : List Value} {S : List Nat} (h : Own w base e sz a n c xs) (hc : Chg S w w') (hs : ∀ k ∈ blks a, k ∉ S) : Own w' base e sz a n c xs := by
  refine ⟨h.1, ?_⟩
  rcases h.2 with hn | ⟨g, cur, fz, rfl, hb, hg, rest⟩
  · exact .inl hn
  · exact .inr ⟨g, cur, fz, rfl, hb, hc.block hg (hs g (by simp [blks])), rest⟩
theorem Own.mem {w : World} {base : Nat} {e : TypeId} {sz : Nat} {a : Option Addr} {n c : Nat} {xs : List Value} (h : Own w base e sz a n c xs) : ∀ k ∈ blks a, base ≤ k ∧ k < w.heap.size := by
  intro k hk
  rcases h.2 with ⟨rfl, _⟩ | ⟨g, cur, fz, rfl, hb, hg, rest⟩
  · simp [blks] at hk
  · simp [blks] at hk; subst hk
    exact ⟨hb, (Array.getElem?_eq_some_iff.1 hg).1⟩
theorem Own.front {w : World} {base : Nat} {e : TypeId} {sz : Nat} {a : Option Addr} {n c F : Nat} {xs : List Value} (h : Own w base e sz a n c xs) (hF : F ≤ n) : Own w base e sz a F F (xs.take (F * sz)) := by
  have hm : F * sz ≤ n * sz := Nat.mul_le_mul_right _ hF
  refine ⟨by rw [List.length_take, h.1]; omega, ?_⟩
  rcases h.2 with ⟨rfl, rfl, rfl⟩ | ⟨g, cur, fz, rfl, hb, hg, hf, h1, h2, h3, h4⟩
  · exact .inl ⟨rfl, by omega, by omega⟩
  · exact .inr ⟨g, cur, fz, rfl, hb, hg, hf, Nat.le_refl _, by omega, Nat.le_trans (Nat.mul_le_mul_right _ (by omega : F ≤ c)) h3, by rw [← h4, List.take_take, Nat.min_eq_left hm]⟩
def Cells (w : World) (a : Option Addr) (vs : List Value) : Prop := ∀ j v, vs[j]? = some v → ∃ ad, a = some ad ∧ w.cell? (ad.add j) = some v
theorem Own.cells {w : World} {base : Nat} {e : TypeId} {sz : Nat} {a : Option Addr} {n c : Nat} {xs : List Value} (h : Own w base e sz a n c xs) : Cells w a xs := by
  intro j v hj
  rcases h.2 with ⟨rfl, rfl, rfl⟩ | ⟨g, cur, fz, rfl, hb, hg, hf, h1, h2, h3, h4⟩
  · have : xs = [] := List.eq_nil_of_length_eq_zero (by simpa using h.1)
    subst this; simp at hj
  · refine ⟨_, rfl, ?_⟩
    rw [add_lit]
    rw [← h4, List.getElem?_take] at hj
    split at hj
    · simp [World.cell?, hg]; simpa using hj
    · cases hj
theorem Cells.chg {w w' : World} {a : Option Addr} {vs : List Value} {S : List Nat} (h : Cells w a vs) (hc : Chg S w w') (hs : ∀ k ∈ blks a, k ∉ S) : Cells w' a vs := by
  intro j v hj
  obtain ⟨ad, rfl, hcell⟩ := h j v hj
  exact ⟨ad, rfl, hc.cell hcell (by
    have : (ad.add j).block = ad.block := by unfold Addr.add; split <;> rfl
    rw [this]; exact hs _ (by simp [blks]))⟩
theorem Blk.cells {w : World} {b : Nat} {cs : List Value} {T : TypeId} (h : Blk w b cs T) : Cells w (some ⟨b, 0, none⟩) cs :=
  fun j v hj => ⟨_, rfl, by rw [add_lit]; simpa using h.cell hj⟩
structure Elt (P : Program) (t e : TypeId) (sz by_ : Nat) : Prop where
  und : P.underlying t = some (.slice e)
  row : ∃ i z, P.info? e = some i ∧ i.zero = some z ∧ i.size = sz ∧ i.bytes = by_ ∧ z.cells.size = sz
def eltB (P : Program) (t e : TypeId) (sz by_ : Nat) : Bool :=
  match P.underlying t with
  | some (.slice e') => Nat.beq e' e && (match P.info? e with
    | some i => match i.zero with
      | some z => Nat.beq i.size sz && Nat.beq i.bytes by_ && Nat.beq z.cells.size sz
      | none => false
    | none => false)
  | _ => false
theorem elt_of {P : Program} {t e : TypeId} {sz by_ : Nat} (h : eltB P t e sz by_ = true) : Elt P t e sz by_ := by
  unfold eltB at h
  split at h
  · rename_i e' hu
    simp only [Bool.and_eq_true] at h
    obtain ⟨h1, h2⟩ := h
    have := Nat.eq_of_beq_eq_true h1; subst this
    refine ⟨hu, ?_⟩
    split at h2
    · rename_i i hi
      split at h2
      · rename_i z hz
        simp only [Bool.and_eq_true] at h2
        exact ⟨i, z, hi, hz, Nat.eq_of_beq_eq_true h2.1.1, Nat.eq_of_beq_eq_true h2.1.2, Nat.eq_of_beq_eq_true h2.2⟩
      · cases h2
    · cases h2
  · cases h
theorem over_get : ∀ (l : List Value) (o : Nat) (cs : List Value), o + l.length ≤ cs.length → ∀ k, (over l o cs)[k]? = if o ≤ k ∧ k < o + l.length then l[k - o]? else cs[k]?
  | [], o, cs, h, k => by
    rw [over_nil, if_neg]
    simp only [List.length_nil]; omega
  | y :: r, o, cs, h, k => by
    simp at h ⊢
    rw [over_cons y r o cs (by omega), over_get r (o + 1) _ (by simp; omega) k]
    by_cases hk : o = k
    · subst hk
      rw [if_neg (by omega), if_pos (by omega)]
      rw [List.getElem?_set_self (by omega)]
      simp
    · by_cases hk2 : o + 1 ≤ k ∧ k < o + 1 + r.length
      · rw [if_pos hk2, if_pos (by omega), show k - o = (k - (o + 1)) + 1 by omega]
        simp
      · rw [if_neg hk2, if_neg (by omega), List.getElem?_set]
        rw [if_neg hk]
theorem over_take (l : List Value) (o : Nat) (cs : List Value) (h : o + l.length ≤ cs.length) : (over l o cs).take (o + l.length) = cs.take o ++ l := by
  apply List.ext_getElem?
  intro k
  rw [List.getElem?_take, over_get l o cs h, List.getElem?_append, List.getElem?_take, List.length_take, show min o cs.length = o by omega]
  by_cases h1 : k < o
  · rw [if_pos (by omega), if_neg (by omega), if_pos h1, if_pos h1]
  · by_cases h2 : k < o + l.length
    · rw [if_pos h2, if_pos (by omega), if_neg h1]
    · rw [if_neg h2, if_neg h1, List.getElem?_eq_none (by omega)]
theorem setCells_over {b : Nat} {T : TypeId} {fz : Nat × Nat} : ∀ (vs : List Value) (w : World) (cs : List Value) (o : Nat), w.heap[b]? = some (.cells cs.toArray T fz) → o + vs.length ≤ cs.length →
    (w.setCells b o vs).heap[b]? = some (.cells (over vs o cs).toArray T fz) ∧ Chg [b] w (w.setCells b o vs)
  | [], w, cs, o, h, hl => by simp [World.setCells, over_nil, h, Chg.refl]
  | v :: r, w, cs, o, h, hl => by
    simp at hl
    simp only [World.setCells]
    have hlt := (Array.getElem?_eq_some_iff.1 h).1
    have h2 : (w.setCell ⟨b, o, none⟩ v).heap[b]? = some (.cells (cs.set o v).toArray T fz) := by
      rw [setCell_setB h]; exact setB_at hlt
    obtain ⟨h3, h4⟩ := setCells_over r _ (cs.set o v) (o + 1) h2 (by simp; omega)
    rw [over_cons v r o cs (by omega)]
    refine ⟨h3, ?_⟩
    have h5 : Chg [b] w (w.setCell ⟨b, o, none⟩ v) := by rw [setCell_setB h]; exact setB_chg _ _ _
    exact h5.trans h4 (fun k hk => hk) (fun k hk => .inl hk)
theorem app_own {P : Program} {t tx e ty : TypeId} {sz by_ : Nat} (T : Elt P t e sz by_) (hsz : 0 < sz) {w : World} {base : Nat} {a : Option Addr} {n c : Nat} {xs : List Value} (hown : Own w base e sz a n c xs) {x : Value} {m : Nat} {news : List Value}
    (hx : Src P sz tx x m news w) (h63 : n + m ≤ maxLen) (hby : (n + m) * by_ ≤ 140737488355328) (hbase : base ≤ w.heap.size) :
    ∃ a' c' w1, App P #[t, tx] ty w (.slice a n c) x (.slice a' (n + m) c') w1 ∧ Own w1 base e sz a' (n + m) c' (xs ++ news) ∧ Chg (blks a) w w1 ∧ ∀ k ∈ blks a', k ∈ blks a ∨ w.heap.size ≤ k := by
  obtain ⟨hu, i, z, hi, hz, rfl, rfl, hzs⟩ := T
  have hsmall : n + m ≤ 9223372036854775807 := by simp only [maxLen] at h63; omega
  have hlen : (xs ++ news).length = (n + m) * i.size := by rw [List.length_append, hown.1, hx.newsLen, Nat.add_mul]
  have grow : ∀ (hold : (Builtin.firstCells i.size n (.slice a n c)).run P w.drew = .ok xs.toArray w.drew), c < n + m →
      ∃ a' c' w1, App P #[t, tx] ty w (.slice a n c) x (.slice a' (n + m) c') w1 ∧ Own w1 base e i.size a' (n + m) c' (xs ++ news) ∧ Chg (blks a) w w1 ∧ ∀ k ∈ blks a', k ∈ blks a ∨ w.heap.size ≤ k := by
    intro hold hg
    have hr := run_append_grow_src w t tx ty e i z hu hi hz a n c xs hold x m news hx hg (by omega) (growslice_fits hg hby)
    have hge := grownCap_ge w (n + m) c e
    have hcm : grownCap w (n + m) c e ≤ maxLen := grownCap_le_maxLen w (n + m) c e h63
    refine ⟨_, _, _, hr, ⟨hlen, .inr ⟨w.heap.size, _, _, rfl, hbase, alloc_new w.drew _, Thaw.zero _, hge, hcm, ?_, ?_⟩⟩, ?_, ?_⟩
    · refine Nat.le_of_eq (Eq.symm ?_)
      simp only [Array.size_append, List.size_toArray, size_zeroCells, hzs, hlen, ← Nat.add_mul]
      congr 1; omega
    · rw [← hlen, Array.toList_append]
      exact List.take_left' rfl
    · exact ⟨rfl, rfl, rfl, by simp, fun k hk _ => alloc_old w.drew _ k hk⟩
    · intro k hk; simp [blks] at hk; subst hk; exact .inr (Nat.le_refl _)
  rcases hown.2 with ⟨rfl, rfl, rfl⟩ | ⟨g, cur, fz, rfl, hbg, hg, hf, hnc, hcm, hcs, htake⟩
  · have hxs : xs = [] := List.eq_nil_of_length_eq_zero (by simpa using hown.1)
    subst hxs
    by_cases hm : m = 0
    · subst hm
      have hn : news = [] := List.eq_nil_of_length_eq_zero (by simpa using hx.newsLen)
      subst hn
      refine ⟨none, 0, w, ?_, Own.nil w base e i.size, Chg.refl _ _, by simp [blks]⟩
      have hl := hx.len w
      have hcl := hx.cells
      rcases hx.kind with ⟨e', hk⟩ | hk <;> simp [App, Builtin.append_, run_und hu, run_und hk, sizeOf, typeInfo, hi, hl, hcl]
    · exact grow (run_firstCells_none _ _ _ _ _) (by omega)
  · by_cases hroom : n + m ≤ c
    · have hfit : n * i.size + news.length ≤ cur.size := by rw [hx.newsLen, ← Nat.add_mul]; exact Nat.le_trans (Nat.mul_le_mul_right _ hroom) hcs
      have hcell : ∀ j, j < news.length → (w.cell? ⟨g, 0 + n * i.size + j, none⟩).isSome = true := by
        intro j hj
        have : 0 + n * i.size + j < cur.size := by omega
        simp [World.cell?, hg]; omega
      have hr := run_append_room_src w t tx ty e i hu hi g 0 n c x m news hx hroom hcell (fun j hj => by
        have := hf (0 + n * i.size + j) (by omega)
        obtain ⟨f1, f2⟩ := fz
        simpa [World.frozen?, hg] using this)
      have hcur : w.heap[g]? = some (.cells cur.toList.toArray e fz) := by simpa using hg
      obtain ⟨h3, h4⟩ := setCells_over news w cur.toList (0 + n * i.size) hcur (by simp; omega)
      refine ⟨_, _, _, hr, ⟨hlen, .inr ⟨g, _, fz, rfl, hbg, h3, ?_, hroom, hcm, ?_, ?_⟩⟩, h4, fun k hk => .inl hk⟩
      · intro k hk
        refine hf k ?_
        rw [List.size_toArray, over_length _ _ _ (by rw [show cur.toList.length = cur.size from Array.length_toList]; omega), Array.length_toList] at hk
        exact hk
      · rw [List.size_toArray, over_length _ _ _ (by rw [show cur.toList.length = cur.size from Array.length_toList]; omega), Array.length_toList]; exact hcs
      · rw [← hlen]
        have := over_take news (0 + n * i.size) cur.toList (by rw [show cur.toList.length = cur.size from Array.length_toList]; omega)
        rw [show (xs ++ news).length = 0 + n * i.size + news.length by rw [hlen, Nat.add_mul, hx.newsLen]; omega]
        simp only [List.toList_toArray]
        rw [this, Nat.zero_add, htake]
    · refine grow ?_ (by omega)
      refine run_firstCells_some _ _ _ _ _ _ xs hown.1 fun j v hj => ?_
      obtain ⟨ad, had, hcell⟩ := hown.cells j v hj
      cases had
      simpa using hcell
end Go.Vc
namespace Go.Vc
open Go
structure KeyT (K : Type) [DecidableEq K] where
  kd : TypeDesc
  enc : K → Value
  same : ∀ a b, Instr.sameNow kd (enc a) (enc b) = some (decide (a = b))
  bits : ∀ a, Instr.sameBits 10000 (enc a) (enc a) = true
  plain : ∀ P t empty w, P.underlying t = some kd → ∀ a, (Instr.checkKey empty (9999 + 1) t (enc a)).run P w = .ok () w
theorem plain_key {P : Program} {t : TypeId} {D : TypeDesc} (h : P.underlying t = some D) (hd : (∃ k, D = .int k) ∨ D = .string) (empty : Bool) (d : Nat) (w : World) (v : Value) : (Instr.checkKey empty (d + 1) t v).run P w = .ok () w := by
  rcases hd with ⟨k, rfl⟩ | rfl <;> simp only [Instr.checkKey, Sem.run_bind, run_und h, Result.andThen_ok, Sem.run_pure]
def intKey (k : IntKind) : KeyT Int where
  kd := .int k
  enc := .int k
  same := fun a b => by simp only [Instr.sameNow, if_true]; rfl
  bits := fun a => by simp [Instr.sameBits]
  plain := fun P t empty w h a => plain_key h (.inl ⟨k, rfl⟩) empty 9999 w _
theorem beq_bytes (a b : ByteArray) : (a == b) = decide (a = b) := by
  obtain ⟨a⟩ := a
  obtain ⟨b⟩ := b
  rw [Bool.eq_iff_iff, decide_eq_true_iff, ByteArray.mk.injEq]
  show (a == b) = true ↔ a = b
  exact beq_iff_eq
def strKey : KeyT ByteArray where
  kd := .string
  enc := .string
  same := fun a b => by simp only [Instr.sameNow, beq_bytes]
  bits := fun a => by simp [Instr.sameBits, beq_bytes]
  plain := fun P t empty w h a => plain_key h (.inr rfl) empty 9999 w _
section
variable {K : Type} [DecidableEq K] (kt : KeyT K)
def aget (l : List (K × Value)) (k : K) : Option Value := match l with
  | [] => none
  | (x, v) :: r => if k = x then some v else aget r k
def aput (l : List (K × Value)) (k : K) (v : Value) : List (K × Value) := match l with
  | [] => [(k, v)]
  | (x, u) :: r => if k = x then (x, v) :: r else (x, u) :: aput r k v
def adel (l : List (K × Value)) (k : K) : List (K × Value) := match l with
  | [] => []
  | (x, u) :: r => if k = x then r else (x, u) :: adel r k
def Reads (es : List MapEntry) (al : List (K × Value)) : Prop := es.map (fun e => (e.key, e.val)) = al.map fun p => (kt.enc p.1, p.2)
def MapAt (w : World) (b : Nat) (al : List (K × Value)) : Prop :=
  ∃ es clock, w.heap[b]? = some (.map es clock) ∧ Reads kt es.toList al ∧ (es.toList.map (·.born)).Nodup ∧ ∀ e ∈ es.toList, e.born < clock
variable {kt}
theorem MapAt.chg {w w' : World} {b : Nat} {al : List (K × Value)} {S : List Nat} (h : MapAt kt w b al) (hc : Chg S w w') (hs : b ∉ S) : MapAt kt w' b al := by
  obtain ⟨es, clock, h1, h2⟩ := h
  exact ⟨es, clock, hc.block h1 hs, h2⟩
theorem MapAt.lt {w : World} {b : Nat} {al : List (K × Value)} (h : MapAt kt w b al) : b < w.heap.size := by
  obtain ⟨es, clock, h1, h2⟩ := h
  exact (Array.getElem?_eq_some_iff.1 h1).1
theorem MapAt.new {w w1 : World} {b : Nat} (h : New w (.map #[] 0) b w1) : MapAt kt w1 b [] := ⟨#[], 0, h.blk, rfl, by simp, by simp⟩
theorem find_now : ∀ {es : List MapEntry} {al : List (K × Value)} (i : Nat) (k : K), Reads kt es al →
    (aget al k = none ∧ Instr.findNow kt.kd (kt.enc k) es i = some none) ∨
    ∃ j v e, aget al k = some v ∧ Instr.findNow kt.kd (kt.enc k) es i = some (some (i + j, v)) ∧ es[j]? = some e ∧ e.key = kt.enc k ∧ e.val = v ∧
      (∀ v', Reads kt (es.modify j fun e => { e with key := kt.enc k, val := v' }) (aput al k v')) ∧ Reads kt (es.eraseIdx j) (adel al k)
  | [], al, i, k, h => by
    have : al = [] := by cases al with
      | nil => rfl
      | cons p r => simp [Reads] at h
    subst this
    exact .inl ⟨rfl, rfl⟩
  | e :: es, al, i, k, h => by
    cases al with
    | nil => simp [Reads] at h
    | cons p al =>
      obtain ⟨x, u⟩ := p
      simp only [Reads, List.map_cons, List.cons.injEq, Prod.mk.injEq] at h
      obtain ⟨⟨hk, hv⟩, h⟩ := h
      simp only [Instr.findNow, hk, kt.same, aget, aput, adel]
      by_cases hkx : k = x
      · subst hkx
        right
        refine ⟨0, u, e, by simp, by simp [hv], by simp, hk, hv, fun v' => ?_, ?_⟩
        · simp only [if_true, Reads, List.modify_zero_cons, List.map_cons, hk]
          rw [h]
        · simp; exact h
      · simp only [hkx, decide_false, if_false]
        rcases find_now (i + 1) k h with ⟨h1, h2⟩ | ⟨j, v, e', h1, h2, h3, h4, h5, h6, h7⟩
        · exact .inl ⟨h1, h2⟩
        · right
          refine ⟨j + 1, v, e', h1, by rw [h2]; congr 3; omega, by simpa using h3, h4, h5, fun v' => ?_, ?_⟩
          · have := h6 v'
            simp only [Reads, List.modify_succ_cons, List.map_cons, hk, hv] at this ⊢
            rw [this]
          · simp only [Reads, List.eraseIdx_cons_succ, List.map_cons, hk, hv] at h7 ⊢
            rw [h7]
theorem reads_push {es : List MapEntry} {al : List (K × Value)} (h : Reads kt es al) {k : K} (hn : aget al k = none) (v : Value) (c : Nat) : Reads kt (es ++ [{ key := kt.enc k, val := v, born := c }]) (aput al k v) := by
  have : ∀ (al : List (K × Value)), aget al k = none → aput al k v = al ++ [(k, v)] := by
    intro al
    induction al with
    | nil => intro _; rfl
    | cons p r ih =>
      obtain ⟨x, u⟩ := p
      intro hn
      simp only [aget] at hn
      split at hn
      · cases hn
      · rename_i hne
        simp only [aput, if_neg hne, ih hn, List.cons_append]
  rw [this al hn]
  simp only [Reads, List.map_append, List.map_cons, List.map_nil] at h ⊢
  rw [h]
theorem run_findKey {P : Program} {w : World} {t : TypeId} {es : List MapEntry} {al : List (K × Value)} {k : K} {r : Option (Nat × Value)} (hu : P.underlying t = some kt.kd) (h : Instr.findNow kt.kd (kt.enc k) es 0 = some r) :
    (Instr.findKey t (kt.enc k) es).run P w = .ok r w := by
  simp only [Instr.findKey, Sem.run_bind, run_und hu, Result.andThen_ok, h, Sem.run_pure]
theorem run_getObj_map {P : Program} {w : World} {b : Nat} {es : Array MapEntry} {c : Nat} (h : w.heap[b]? = some (.map es c)) : (getObj b).run P w = .ok (.map es c) w := by
  simp only [getObj, Sem.run, h]
theorem run_setObj_map {P : Program} {w : World} {b : Nat} {es : Array MapEntry} {c : Nat} (h : w.heap[b]? = some (.map es c)) (o : Obj) : (setObj b o).run P w = .ok () (setB w b o) := by
  simp only [setObj, Sem.run, h]; rfl
structure MapT (P : Program) (kt : KeyT K) (t kT eT : TypeId) (z : Value) : Prop where
  und : P.underlying t = some (.map kT eT)
  key : P.underlying kT = some kt.kd
  zero : zeroOf P eT = some z
theorem lk_map {P : Program} {t kT eT : TypeId} {z : Value} (T : MapT P kt t kT eT z) {w : World} {b : Nat} {al : List (K × Value)} (h : MapAt kt w b al) (k : K) :
    Lk P t false w (.map (some b)) (kt.enc k) ((aget al k).getD z) ∧ Lk P t true w (.map (some b)) (kt.enc k) (.tuple #[(aget al k).getD z, .bool (aget al k).isSome]) := by
  obtain ⟨es, clock, h1, h2, h3⟩ := h
  have hck : ∀ e, (Instr.checkKey e 10000 kT (kt.enc k)).run P w = .ok () w := fun e => kt.plain P kT e w T.key k
  rcases find_now 0 k h2 with ⟨g1, g2⟩ | ⟨j, v, e, g1, g2, -⟩
  · simp only [Lk, Instr.lookup, Sem.run_bind, run_und T.und, Result.andThen_ok, run_getObj_map h1, Sem.run_pure, hck, run_findKey T.key g2 (al := al), Sem.run_map, run_zero T.zero, g1]
    constructor <;> rfl
  · simp only [Lk, Instr.lookup, Sem.run_bind, run_und T.und, Result.andThen_ok, run_getObj_map h1, Sem.run_pure, hck, run_findKey T.key g2 (al := al), g1]
    constructor <;> rfl
theorem lk_nil {P : Program} {t kT eT : TypeId} {z : Value} (T : MapT P kt t kT eT z) {w : World} (k : K) :
    Lk P t false w (.map none) (kt.enc k) z ∧ Lk P t true w (.map none) (kt.enc k) (.tuple #[z, .bool false]) := by
  have hck : ∀ e, (Instr.checkKey e 10000 kT (kt.enc k)).run P w = .ok () w := fun e => kt.plain P kT e w T.key k
  have g2 : Instr.findNow kt.kd (kt.enc k) ([] : List MapEntry) 0 = some none := rfl
  simp only [Lk, Instr.lookup, Sem.run_bind, run_und T.und, Result.andThen_ok, Sem.run_pure, hck, run_findKey T.key g2 (al := []), Sem.run_map, run_zero T.zero]
  constructor <;> rfl
theorem born_modify {es : List MapEntry} {j : Nat} {k v : Value} : (es.modify j fun e => { e with key := k, val := v }).map (·.born) = es.map (·.born) := by
  apply List.ext_getElem?
  intro i
  simp only [List.getElem?_map, List.getElem?_modify]
  cases es[i]? with
  | none => rfl
  | some e => simp; split <;> rfl
theorem mup_map {P : Program} {t kT eT : TypeId} {z : Value} (T : MapT P kt t kT eT z) {w : World} {b : Nat} {al : List (K × Value)} (h : MapAt kt w b al) (k : K) (v : Value) :
    ∃ w1, MUp P t w (.map (some b)) (kt.enc k) v w1 ∧ MapAt kt w1 b (aput al k v) ∧ Chg [b] w w1 := by
  obtain ⟨es, clock, h1, h2, h3, h4⟩ := h
  have hck : ∀ e, (Instr.checkKey e 10000 kT (kt.enc k)).run P w = .ok () w := fun e => kt.plain P kT e w T.key k
  have hlt := (Array.getElem?_eq_some_iff.1 h1).1
  rcases find_now 0 k h2 with ⟨g1, g2⟩ | ⟨j, u, e, g1, g2, g3, g4, g5, g6, -⟩
  · refine ⟨setB w b (.map (es.push { key := kt.enc k, val := v, born := clock }) (clock + 1)), ?_, ⟨_, _, setB_at hlt, ?_, ?_, ?_⟩, setB_chg _ _ _⟩
    · simp only [MUp, Instr.mapUpdate, Sem.run_bind, run_und T.und, Result.andThen_ok, run_getObj_map h1, hck, run_findKey T.key g2 (al := al), run_setObj_map h1]
    · rw [Array.toList_push]; exact reads_push h2 g1 v clock
    · rw [Array.toList_push, List.map_append, List.nodup_append]
      refine ⟨h3, by simp, ?_⟩
      intro a ha c hc
      simp at hc; subst hc
      obtain ⟨e, he, rfl⟩ := List.mem_map.1 ha
      exact Nat.ne_of_lt (h4 e he)
    · intro e he
      rw [Array.toList_push] at he
      rcases List.mem_append.1 he with he | he
      · exact Nat.lt_succ_of_lt (h4 e he)
      · simp at he; subst he; exact Nat.lt_succ_self _
  · have hj : es[j]? = some e := by simpa using g3
    refine ⟨setB w b (.map (es.modify j fun e => { e with key := kt.enc k, val := v }) clock), ?_, ⟨_, _, setB_at hlt, ?_, ?_, ?_⟩, setB_chg _ _ _⟩
    · rw [Nat.zero_add] at g2
      have hstay : (Instr.keyThatStays (kt.enc k) (kt.enc k)).run P w = .ok (kt.enc k) w := by
        simp [Instr.keyThatStays, kt.bits]
      simp only [MUp, Instr.mapUpdate, Sem.run_bind, run_und T.und, Result.andThen_ok, run_getObj_map h1, hck, run_findKey T.key g2 (al := al), hj, Option.map_some, Option.getD_some, g4, hstay, run_setObj_map h1]
    · rw [Array.toList_modify]; exact g6 v
    · rw [Array.toList_modify, born_modify]; exact h3
    · intro e' he'
      have : e'.born ∈ (es.modify j fun e => { e with key := kt.enc k, val := v }).toList.map (·.born) := List.mem_map.2 ⟨e', he', rfl⟩
      rw [Array.toList_modify, born_modify] at this
      obtain ⟨e2, he2, e3⟩ := List.mem_map.1 this
      rw [← e3]; exact h4 e2 he2
theorem erase_list (es : Array MapEntry) (j : Nat) : (es.eraseIdxIfInBounds j).toList = es.toList.eraseIdx j := by
  rw [Array.eraseIdxIfInBounds]
  split
  · simp
  · rw [List.eraseIdx_of_length_le (by simpa using (by omega : es.size ≤ j))]
theorem del_map {P : Program} {ts : Array TypeId} {ty t kT eT : TypeId} {z : Value} (T : MapT P kt t kT eT z) (hts : ts[0]? = some t) {w : World} {b : Nat} {al : List (K × Value)} (h : MapAt kt w b al) (k : K) :
    ∃ w1, Del P ts ty w (.map (some b)) (kt.enc k) w1 ∧ MapAt kt w1 b (adel al k) ∧ Chg [b] w w1 := by
  obtain ⟨es, clock, h1, h2, h3, h4⟩ := h
  have hck : ∀ e, (Instr.checkKey e 10000 kT (kt.enc k)).run P w = .ok () w := fun e => kt.plain P kT e w T.key k
  have hlt := (Array.getElem?_eq_some_iff.1 h1).1
  rcases find_now 0 k h2 with ⟨g1, g2⟩ | ⟨j, u, e, g1, g2, g3, g4, g5, -, g7⟩
  · have hsame : ∀ (al : List (K × Value)), aget al k = none → adel al k = al := by
      intro al
      induction al with
      | nil => intro _; rfl
      | cons p r ih =>
        obtain ⟨x, u⟩ := p
        intro hn
        simp only [aget] at hn
        split at hn
        · cases hn
        · rename_i hne
          simp only [adel, if_neg hne, ih hn]
    refine ⟨setB w b (.map es clock), ?_, ⟨_, _, setB_at hlt, by rw [hsame al g1]; exact h2, h3, h4⟩, setB_chg _ _ _⟩
    simp only [Del, Builtin.delete_, hts, List.getElem?_toArray, List.getElem?_cons_zero, List.getElem?_cons_succ, Sem.run_bind, run_und T.und, Result.andThen_ok, run_getObj_map h1, hck, run_findKey T.key g2 (al := al), run_setObj_map h1, Sem.run_pure]
  · refine ⟨setB w b (.map (es.eraseIdxIfInBounds j) clock), ?_, ⟨_, _, setB_at hlt, ?_, ?_, ?_⟩, setB_chg _ _ _⟩
    · rw [Nat.zero_add] at g2
      simp only [Del, Builtin.delete_, hts, List.getElem?_toArray, List.getElem?_cons_zero, List.getElem?_cons_succ, Sem.run_bind, run_und T.und, Result.andThen_ok, run_getObj_map h1, hck, run_findKey T.key g2 (al := al), run_setObj_map h1, Sem.run_pure]
    · rw [erase_list]; exact g7
    · rw [erase_list]; exact h3.sublist ((List.eraseIdx_sublist ..).map _)
    · intro e' he'
      rw [erase_list] at he'
      exact h4 e' ((List.eraseIdx_sublist ..).subset he')
end
end Go.Vc
namespace Go.Vc
open Go
inductive Asn where
  | blk (b : Nat) (cs : List Value) (T : TypeId)
  | own (e : TypeId) (sz : Nat) (a : Option Addr) (n c : Nat) (xs : List Value)
  | imap (b : Nat) (k : IntKind) (al : List (Int × Value))
  | smap (b : Nat) (al : List (ByteArray × Value))
  | any (foot : List Nat) (p : World → Prop)
def Asn.foot : Asn → List Nat
  | .blk b _ _ => [b]
  | .own _ _ a _ _ _ => blks a
  | .imap b _ _ => [b]
  | .smap b _ => [b]
  | .any f _ => f
def Asn.ok : Asn → World → Prop
  | .blk b cs T, w => Blk w b cs T
  | .own e sz a n c xs, w => Own w 0 e sz a n c xs
  | .imap b k al, w => MapAt (intKey k) w b al
  | .smap b al, w => MapAt strKey w b al
  | .any f p, w => (∀ k ∈ f, k < w.heap.size) ∧ ∀ w', (∀ k ∈ f, w'.heap[k]? = w.heap[k]?) → p w'
theorem Asn.ok_lt {a : Asn} {w : World} (h : a.ok w) : ∀ k ∈ a.foot, k < w.heap.size := by
  intro k hk
  cases a with
  | blk b cs T => simp only [Asn.foot, List.mem_singleton] at hk; subst hk; exact Blk.lt h
  | own e sz a n c xs => exact (Own.mem (show Own w 0 e sz a n c xs from h) k hk).2
  | imap b kd al => simp only [Asn.foot, List.mem_singleton] at hk; subst hk; exact MapAt.lt h
  | smap b al => simp only [Asn.foot, List.mem_singleton] at hk; subst hk; exact MapAt.lt h
  | any f p => exact h.1 k hk
theorem lt_of_eq {w w' : World} {k : Nat} (h : k < w.heap.size) (e : w'.heap[k]? = w.heap[k]?) : k < w'.heap.size := by
  rw [Array.getElem?_eq_getElem h] at e
  exact (Array.getElem?_eq_some_iff.1 e).1
theorem Asn.ok_of {a : Asn} {w w' : World} (h : a.ok w) (e : ∀ k ∈ a.foot, w'.heap[k]? = w.heap[k]?) : a.ok w' := by
  cases a with
  | blk b cs T => exact (e b (by simp [Asn.foot])).trans h
  | own el sz a n c xs =>
    refine ⟨h.1, ?_⟩
    rcases h.2 with hn | ⟨g, cur, fz, rfl, hb, hg, rest⟩
    · exact .inl hn
    · exact .inr ⟨g, cur, fz, rfl, hb, (e g (by simp [Asn.foot, blks])).trans hg, rest⟩
  | imap b kd al =>
    obtain ⟨es, clock, h1, h2⟩ := h
    exact ⟨es, clock, (e b (by simp [Asn.foot])).trans h1, h2⟩
  | smap b al =>
    obtain ⟨es, clock, h1, h2⟩ := h
    exact ⟨es, clock, (e b (by simp [Asn.foot])).trans h1, h2⟩
  | any f p => exact ⟨fun k hk => lt_of_eq (h.1 k hk) (e k hk), fun w2 h2 => h.2 w2 fun k hk => (h2 k hk).trans (e k hk)⟩
structure Hp (B : List Nat) (w0 w : World) (L : List Asn) : Prop where
  chg : Chg B w0 w
  ok : ∀ a ∈ L, a.ok w
  own : ∀ a ∈ L, ∀ k ∈ a.foot, k ∈ B ∨ w0.heap.size ≤ k
  sep : L.Pairwise fun a b => ∀ k ∈ a.foot, k ∉ b.foot
theorem Hp.start (w : World) : Hp [] w w [] := ⟨Chg.refl _ _, by simp, by simp, .nil⟩
theorem Hp.start1 {w : World} {a : Asn} (h : a.ok w) : Hp a.foot w w [a] := ⟨Chg.refl _ _, by simpa using h, by simp; intro k hk; exact .inl hk, by simp⟩
section
variable {B S : List Nat} {w0 w w' : World} {L L1 L2 M : List Asn} {a a' x y z u v p q : Asn}
theorem Hp.use (H : Hp B w0 w (L1 ++ L2)) (H' : Hp S w w' M) (hS : ∀ k ∈ S, ∃ a ∈ L1, k ∈ a.foot) : Hp B w0 w' (M ++ L2) := by
  have hB : ∀ k ∈ S, k ∈ B ∨ w0.heap.size ≤ k := fun k hk => by
    obtain ⟨a, ha, hf⟩ := hS k hk
    exact H.own a (List.mem_append_left _ ha) k hf
  have hsep := List.pairwise_append.1 H.sep
  have hnS : ∀ b ∈ L2, ∀ k ∈ b.foot, k ∉ S := fun b hb k hk hs => by
    obtain ⟨a, ha, hf⟩ := hS k hs
    exact hsep.2.2 a ha b hb k hf hk
  refine ⟨H.chg.trans H'.chg (fun k hk => hk) hB, ?_, ?_, ?_⟩
  · intro b hb
    rcases List.mem_append.1 hb with hb | hb
    · exact H'.ok b hb
    · have hok := H.ok b (List.mem_append_right _ hb)
      exact Asn.ok_of hok fun k hk => H'.chg.2.2.2.2 k (Asn.ok_lt hok k hk) (hnS b hb k hk)
  · intro b hb k hk
    rcases List.mem_append.1 hb with hb | hb
    · rcases H'.own b hb k hk with h | h
      · exact hB k h
      · exact .inr (Nat.le_trans H.chg.size h)
    · exact H.own b (List.mem_append_right _ hb) k hk
  · refine List.pairwise_append.2 ⟨H'.sep, hsep.2.1, fun b hb d hd k hk hkd => ?_⟩
    rcases H'.own b hb k hk with h | h
    · exact hnS d hd k hkd h
    · have := Asn.ok_lt (H.ok d (List.mem_append_right _ hd)) k hkd
      omega
theorem Hp.ext (H : Hp B w0 w L) (H' : Hp [] w w' M) : Hp B w0 w' (M ++ L) := Hp.use (L1 := []) H H' (by simp)
theorem Hp.ext0 (H : Hp B w0 w L) (H' : Hp [] w w' []) : Hp B w0 w' L := Hp.use (L1 := []) H H' (by simp)
theorem Hp.ext1 (H : Hp B w0 w L) (H' : Hp [] w w' [x]) : Hp B w0 w' (x :: L) := Hp.use (L1 := []) H H' (by simp)
theorem Hp.ext2 (H : Hp B w0 w L) (H' : Hp [] w w' [x, y]) : Hp B w0 w' (x :: y :: L) := Hp.use (L1 := []) H H' (by simp)
theorem Hp.use1 (H : Hp B w0 w (a :: L)) (H' : Hp a.foot w w' M) : Hp B w0 w' (M ++ L) := Hp.use (L1 := [a]) H H' (by simp)
theorem Hp.use11 (H : Hp B w0 w (a :: L)) (H' : Hp a.foot w w' [x]) : Hp B w0 w' (x :: L) := Hp.use (L1 := [a]) H H' (by simp)
theorem Hp.chg0 (H : Hp B w0 w L) (h : Chg [] w w') : Hp B w0 w' L := H.ext0 ⟨h, by simp, by simp, .nil⟩
theorem Hp.set (H : Hp B w0 w (a :: L)) (h : Chg a.foot w w') (hok : a'.ok w') (hf : ∀ k ∈ a'.foot, k ∈ a.foot ∨ w.heap.size ≤ k) : Hp B w0 w' (a' :: L) :=
  H.use11 ⟨h, by simpa using hok, by simpa using hf, by simp⟩
theorem Hp.add (H : Hp B w0 w L) (h : Chg [] w w') (hok : a'.ok w') (hf : ∀ k ∈ a'.foot, w.heap.size ≤ k) : Hp B w0 w' (a' :: L) :=
  H.ext1 ⟨h, by simpa using hok, by simp; intro k hk; exact hf k hk, by simp⟩
theorem Hp.perm (H : Hp B w0 w L) (h : L.Perm M) : Hp B w0 w M :=
  ⟨H.chg, fun a ha => H.ok a (h.mem_iff.2 ha), fun a ha => H.own a (h.mem_iff.2 ha), (h.pairwise_iff (fun h1 k hk hk' => h1 k hk' hk)).1 H.sep⟩
theorem Hp.drop (H : Hp B w0 w (a :: L)) : Hp B w0 w L := ⟨H.chg, fun b hb => H.ok b (.tail _ hb), fun b hb => H.own b (.tail _ hb), (List.pairwise_cons.1 H.sep).2⟩
theorem Hp.drop1 (H : Hp B w0 w (x :: a :: L)) : Hp B w0 w (x :: L) := (H.perm (.swap a x L)).drop
theorem Hp.done (H : Hp B w0 w L) : Hp B w0 w [] := ⟨H.chg, by simp, by simp, .nil⟩
theorem Hp.done1 (H : Hp B w0 w (x :: L)) : Hp B w0 w [x] := ⟨H.chg, fun b hb => H.ok b (by simp at hb; simp [hb]), fun b hb => H.own b (by simp at hb; simp [hb]), by simp⟩
theorem Hp.pull1 (H : Hp B w0 w (x :: a :: L)) : Hp B w0 w (a :: x :: L) := H.perm (.swap a x L)
theorem Hp.pull2 (H : Hp B w0 w (x :: y :: a :: L)) : Hp B w0 w (a :: x :: y :: L) := H.perm (((List.Perm.swap a y L).cons x).trans (.swap a x _))
theorem perm_pull (L1 : List Asn) (a : Asn) (L : List Asn) : (L1 ++ a :: L).Perm (a :: (L1 ++ L)) := List.perm_middle
theorem Hp.pull3 (H : Hp B w0 w (x :: y :: z :: a :: L)) : Hp B w0 w (a :: x :: y :: z :: L) := H.perm (perm_pull [x, y, z] a L)
theorem Hp.pull4 (H : Hp B w0 w (x :: y :: z :: u :: a :: L)) : Hp B w0 w (a :: x :: y :: z :: u :: L) := H.perm (perm_pull [x, y, z, u] a L)
theorem Hp.pull5 (H : Hp B w0 w (x :: y :: z :: u :: v :: a :: L)) : Hp B w0 w (a :: x :: y :: z :: u :: v :: L) := H.perm (perm_pull [x, y, z, u, v] a L)
theorem Hp.pull6 (H : Hp B w0 w (x :: y :: z :: u :: v :: p :: a :: L)) : Hp B w0 w (a :: x :: y :: z :: u :: v :: p :: L) := H.perm (perm_pull [x, y, z, u, v, p] a L)
theorem Hp.pull7 (H : Hp B w0 w (x :: y :: z :: u :: v :: p :: q :: a :: L)) : Hp B w0 w (a :: x :: y :: z :: u :: v :: p :: q :: L) := H.perm (perm_pull [x, y, z, u, v, p, q] a L)
theorem Hp.del1 (H : Hp B w0 w (x :: a :: L)) : Hp B w0 w (x :: L) := (H.pull1).drop
theorem Hp.del2 (H : Hp B w0 w (x :: y :: a :: L)) : Hp B w0 w (x :: y :: L) := (H.pull2).drop
theorem Hp.del3 (H : Hp B w0 w (x :: y :: z :: a :: L)) : Hp B w0 w (x :: y :: z :: L) := (H.pull3).drop
theorem Hp.del4 (H : Hp B w0 w (x :: y :: z :: u :: a :: L)) : Hp B w0 w (x :: y :: z :: u :: L) := (H.pull4).drop
theorem Hp.del5 (H : Hp B w0 w (x :: y :: z :: u :: v :: a :: L)) : Hp B w0 w (x :: y :: z :: u :: v :: L) := (H.pull5).drop
theorem Hp.del6 (H : Hp B w0 w (x :: y :: z :: u :: v :: p :: a :: L)) : Hp B w0 w (x :: y :: z :: u :: v :: p :: L) := (H.pull6).drop
theorem Hp.del7 (H : Hp B w0 w (x :: y :: z :: u :: v :: p :: q :: a :: L)) : Hp B w0 w (x :: y :: z :: u :: v :: p :: q :: L) := (H.pull7).drop
end
structure Eqw (w w' : World) : Prop where
  heap : w'.heap = w.heap
  os : w'.os = w.os
  tape : w'.tape = w.tape
  output : w'.output = w.output
theorem Eqw.chg {w w' : World} (e : Eqw w w') : Chg [] w w' := ⟨e.os, e.tape, e.output, by rw [e.heap]; exact Nat.le_refl _, fun k _ _ => by rw [e.heap]⟩
theorem Hp.go {B : List Nat} {w0 w w' : World} {L : List Asn} (H : Hp B w0 w L) (e : Eqw w w') : Hp B w0 w' L := H.chg0 e.chg
theorem Hp.drew {B : List Nat} {w0 w : World} {L : List Asn} (H : Hp B w0 w L) : Hp B w0 w.drew L := H.go ⟨rfl, rfl, rfl, rfl⟩
structure Scl (P : Program) (t : TypeId) : Prop where
  agg : aggB P t = some false
  size : sizeV P t = some 1
structure Agg (P : Program) (t : TypeId) (n : Nat) : Prop where
  agg : aggB P t = some true
  size : sizeV P t = some n
def sclB (P : Program) (t : TypeId) : Bool := match aggB P t, sizeV P t with
  | some false, some 1 => true
  | _, _ => false
def sagB (P : Program) (t n : Nat) : Bool := match aggB P t, sizeV P t with
  | some true, some m => Nat.beq m n
  | _, _ => false
theorem scl_of {P : Program} {t : TypeId} (h : sclB P t = true) : Scl P t := by
  unfold sclB at h
  split at h
  · exact ⟨by assumption, by assumption⟩
  · cases h
theorem agg_of {P : Program} {t n : Nat} (h : sagB P t n = true) : Agg P t n := by
  unfold sagB at h
  split at h
  · rename_i h1 h2
    have := Nat.eq_of_beq_eq_true h; subst this
    exact ⟨h1, h2⟩
  · cases h
section
variable {P : Program} {B : List Nat} {w0 w w' : World} {L : List Asn} {b o n : Nat} {cs : List Value} {T t : TypeId}
theorem Hp.new (H : Hp B w0 w L) (e : Eqw w w') {w1 : World} (h : New w' (.cells cs.toArray T) b w1) : Hp B w0 w1 (.blk b cs T :: L) :=
  (H.go e).add h.chg h.cells (by simp [Asn.foot]; exact h.num ▸ Nat.le_refl _)
theorem Hp.newI (H : Hp B w0 w L) (e : Eqw w w') {w1 : World} (k : IntKind) (h : New w' (.map #[] 0) b w1) : Hp B w0 w1 (.imap b k [] :: L) :=
  (H.go e).add h.chg (MapAt.new h) (by simp [Asn.foot]; exact h.num ▸ Nat.le_refl _)
theorem Hp.newS (H : Hp B w0 w L) (e : Eqw w w') {w1 : World} (h : New w' (.map #[] 0) b w1) : Hp B w0 w1 (.smap b [] :: L) :=
  (H.go e).add h.chg (MapAt.new h) (by simp [Asn.foot]; exact h.num ▸ Nat.le_refl _)
theorem Hp.blk (H : Hp B w0 w L) (m : Asn.blk b cs T ∈ L) : Blk w b cs T := H.ok _ m
theorem Hp.ownA {e : TypeId} {sz : Nat} {a : Option Addr} {n c : Nat} {xs : List Value} (H : Hp B w0 w L) (m : Asn.own e sz a n c xs ∈ L) : Own w 0 e sz a n c xs := H.ok _ m
theorem Hp.ld (H : Hp B w0 w L) (e : Eqw w w') (S : Scl P t) (m : Asn.blk b cs T ∈ L) {v : Value} (hv : cs[o]? = some v) : Ld P t w' ⟨b, o, none⟩ v :=
  Blk.ld ((H.go e).blk m) S.agg hv
theorem Hp.ldA (H : Hp B w0 w L) (e : Eqw w w') (S : Agg P t n) (m : Asn.blk b cs T ∈ L) {vs : List Value} (hv : (cs.drop o).take n = vs) (hl : vs.length = n) : Ld P t w' ⟨b, o, none⟩ (.agg vs.toArray) := by
  subst hl
  exact Blk.ldA ((H.go e).blk m) S.agg S.size hv
theorem Hp.st (H : Hp B w0 w (.blk b cs T :: L)) (e : Eqw w w') (S : Scl P t) {v : Value} {G : World → Prop} (hv : v.cells = #[v]) (h1 : v.oneCell' = true) (ho : o < cs.length) {cs' : List Value} (hc : cs.set o v = cs')
    (k : ∀ w1, Hp B w0 w1 (.blk b cs' T :: L) → G w1) : ∃ w1, St P t w' ⟨b, o, none⟩ v w1 ∧ G w1 := by
  obtain ⟨w1, h1, h2, h3⟩ := Blk.st ((H.go e).blk (.head _)) (by rw [hv]; exact S.size) (by rw [hv]; simpa using h1) (by rw [hv]; exact ho)
  refine ⟨w1, h1, k w1 ((H.go e).set h3 ?_ (fun k hk => .inl hk))⟩
  rw [hv] at h2
  rw [← hc]
  have e2 : over #[v].toList o cs = cs.set o v := by
    rw [show #[v].toList = [v] from rfl, over_cons v [] o cs ho, over_nil]
  rw [e2] at h2; exact h2
theorem Hp.stA (H : Hp B w0 w (.blk b cs T :: L)) (e : Eqw w w') (S : Agg P t n) {vs : List Value} {G : World → Prop} (hn : vs.length = n) (h1 : vs.all (·.oneCell') = true) (ho : o + n ≤ cs.length) {cs' : List Value} (hc : over vs o cs = cs')
    (k : ∀ w1, Hp B w0 w1 (.blk b cs' T :: L) → G w1) : ∃ w1, St P t w' ⟨b, o, none⟩ (.agg vs.toArray) w1 ∧ G w1 := by
  subst hn
  obtain ⟨w1, h1, h2, h3⟩ := Blk.st ((H.go e).blk (.head _)) (v := .agg vs.toArray) (by simpa [Value.cells] using S.size) (by simpa [Value.cells] using h1) (by simpa [Value.cells] using ho)
  refine ⟨w1, h1, k w1 ((H.go e).set h3 ?_ (fun k hk => .inl hk))⟩
  rw [← hc]; exact h2
variable {tx ty e : TypeId} {sz by_ : Nat} {a : Option Addr} {c m : Nat} {xs news : List Value} {x : Value} {G : Option Addr → Nat → Nat → World → Prop}
theorem Hp.sx (H : Hp B w0 w (.blk b cs T :: L)) (S : Scl P t) {v : Value} {G : World → Prop} (k : ∀ w1, Hp B w0 w1 (.blk b (cs.set o v) T :: L) → G w1) (e : Eqw w w' := by exact ⟨rfl, rfl, rfl, rfl⟩) (hv : v.cells = #[v] := by exact rfl) (h1 : v.oneCell' = true := by exact rfl) (ho : o < cs.length := by exact Nat.le_of_ble_eq_true rfl) : ∃ w1, St P t w' ⟨b, o, none⟩ v w1 ∧ G w1 := Hp.st H e S hv h1 ho rfl k
theorem Hp.sxA (H : Hp B w0 w (.blk b cs T :: L)) (S : Agg P t n) {vs : List Value} {G : World → Prop} (k : ∀ w1, Hp B w0 w1 (.blk b (over vs o cs) T :: L) → G w1) (e : Eqw w w' := by exact ⟨rfl, rfl, rfl, rfl⟩) (hn : vs.length = n := by exact rfl) (h1 : vs.all (·.oneCell') = true := by exact rfl) (ho : o + n ≤ cs.length := by exact Nat.le_of_ble_eq_true rfl) : ∃ w1, St P t w' ⟨b, o, none⟩ (.agg vs.toArray) w1 ∧ G w1 := Hp.stA H e S hn h1 ho rfl k
theorem Hp.app (T : Elt P t e sz by_) (hsz : 0 < sz) (H : Hp B w0 w (.own e sz a n c xs :: L)) (eq : Eqw w w') (hx : Src P sz tx x m news w') (h63 : n + m ≤ maxLen) (hby : (n + m) * by_ ≤ 140737488355328)
    (k : ∀ a' c' w1, Hp B w0 w1 (.own e sz a' (n + m) c' (xs ++ news) :: L) → G a' (n + m) c' w1) :
    ∃ a' n' c' w1, App P #[t, tx] ty w' (.slice a n c) x (.slice a' n' c') w1 ∧ G a' n' c' w1 := by
  have hown : Own w' 0 e sz a n c xs := (H.go eq).ok _ (.head _)
  obtain ⟨a', c', w1, h1, h2, h3, h4⟩ := app_own (ty := ty) T hsz hown hx h63 hby (Nat.zero_le _)
  exact ⟨a', _, c', w1, h1, k a' c' w1 ((H.go eq).set h3 h2 h4)⟩
end
theorem Blk.src {P : Program} {w : World} {b : Nat} {cs : List Value} {T tx e' : TypeId} {sz n c : Nat} (hk : P.underlying tx = some (.slice e')) (h : Blk w b cs T) (hl : cs.length = n * sz) (h1 : cs.all (·.oneCell') = true) : Src P sz tx (.slice (some ⟨b, 0, none⟩) n c) n cs w :=
  Src.ofSlice w hk ⟨b, 0, none⟩ n c cs hl (fun j u hj => by rw [add_lit]; exact h.cell (by simpa using hj)) (fun u hu => List.all_eq_true.1 h1 u hu)
theorem Cells.src {P : Program} {w : World} {a : Option Addr} {cs : List Value} {tx e' : TypeId} {sz n c : Nat} (hk : P.underlying tx = some (.slice e')) (h : Cells w a cs) (hl : cs.length = n * sz) (h1 : ∀ u ∈ cs, u.oneCell' = true) (h0 : a = none → n = 0) : Src P sz tx (.slice a n c) n cs w := by
  cases a with
  | none =>
    have := h0 rfl; subst this
    have : cs = [] := List.eq_nil_of_length_eq_zero (by simpa using hl)
    subst this
    exact Src.ofNil w hk c
  | some ad => exact Src.ofSlice w hk ad n c cs hl (fun j u hj => by obtain ⟨ad', e1, e2⟩ := h j u hj; cases e1; exact e2) h1
theorem byteCells_one (s : ByteArray) : ∀ u ∈ byteCells s, u.oneCell' = true := by
  intro u hu
  obtain ⟨_, _, rfl⟩ := List.mem_map.1 hu
  rfl
section
variable {P : Program} {B : List Nat} {w0 w w' : World} {L : List Asn}
theorem Hp.s2b {src dst e : TypeId} {s : ByteArray} (H : Hp B w0 w L) (eq : Eqw w w') (hs : P.underlying src = some .string) (hd : P.underlying dst = some (.slice e)) (he : P.underlying e = some (.int .u8)) (hl : s.size ≤ maxLen)
    {G : Option Addr → Nat → Nat → World → Prop} (k : ∀ a c w1, Hp B w0 w1 (.own e 1 a s.size c (byteCells s) :: L) → G a s.size c w1) :
    ∃ a n c w1, S2B P src dst w' (.string s) (.slice a n c) w1 ∧ G a n c w1 := by
  refine ⟨_, _, _, _, run_bytes_of_string w' src dst e s hs hd he, k _ _ _ ((H.go eq).add ?_ ?_ ?_)⟩
  · exact ⟨rfl, rfl, rfl, by simp, fun k hk _ => alloc_old w'.drew _ k hk⟩
  · refine ⟨by rw [byteCells_length, Nat.mul_one], .inr ⟨_, _, _, rfl, Nat.zero_le _, alloc_new w'.drew _, Thaw.behind _ _, grownCap_ge _ _ _ _, grownCap_le_maxLen _ _ _ _ hl, ?_, ?_⟩⟩
    · have := grownCap_ge w' s.size 0 e
      simp only [bytesRow, Array.size_append, Array.size_map, Array.size_replicate, Nat.mul_one]
      have e2 : s.data.size = s.size := rfl
      omega
    · have e2 : (byteCells s).length = s.size := byteCells_length s
      rw [Nat.mul_one, bytesRow, Array.toList_append, Array.toList_map, ← e2]
      exact List.take_left' rfl
  · intro k hk; simp [Asn.foot, blks] at hk; subst hk; exact Nat.le_refl _
theorem b2s {src dst e : TypeId} {a : Option Addr} {n c : Nat} {s : ByteArray} (hs : P.underlying src = some (.slice e)) (he : P.underlying e = some (.int .u8)) (hd : P.underlying dst = some .string) (hc : Cells w a (byteCells s)) (hn : n = s.size) :
    B2S P src dst w (.slice a n c) (.string s) := by
  subst hn
  cases a with
  | none =>
    have : byteCells s = [] := by
      cases h : byteCells s with
      | nil => rfl
      | cons v r => obtain ⟨ad, e1, _⟩ := hc 0 v (by rw [h]; rfl); cases e1
    have h0 : s = ByteArray.empty := by
      have h1 : s.data.toList = [] := by simpa [byteCells] using this
      obtain ⟨d⟩ := s
      have : d = #[] := by apply Array.ext'; simpa using h1
      subst this; rfl
    subst h0
    exact run_convert_bytes_nil w src e hs he _ _ dst hd
  | some ad =>
    have := run_convert_bytes_back w src dst e ad c s.data.toList hs he hd (fun j hj => by
      have h1 : (byteCells s)[j]? = some (.int .u8 (s.data.toList[j].toNat : Int)) := by
        simp [byteCells, List.getElem?_map, List.getElem?_eq_getElem hj]
      obtain ⟨ad', e1, e2⟩ := hc j _ h1
      cases e1; exact e2)
    rw [show (s.data.toList.toArray) = s.data by simp] at this
    simpa [B2S, Array.length_toList] using this
theorem Hp.mkS {t e : TypeId} {sz by_ : Nat} {kl kc : IntKind} {n : Int} (T : Elt P t e sz by_) (H : Hp B w0 w L) (eq : Eqw w w') (h0 : 0 ≤ n) (hl : n.toNat ≤ maxLen) (hby : (by_ : Int) * n ≤ 281474976710656) {z : Value} (hz : zeroOf P e = some z)
    {G : Option Addr → Nat → Nat → World → Prop} (k : ∀ a w1, Hp B w0 w1 (.own e sz a n.toNat n.toNat (madeCells z.cells (n.toNat * sz)).toList :: L) → G a n.toNat n.toNat w1) :
    ∃ a l c w1, MkS P t w' (.int kl n) (.int kc n) (.slice a l c) w1 ∧ G a l c w1 := by
  obtain ⟨hu, i, z', hi, hz', rfl, rfl, hzs⟩ := T
  have hzz : z' = z := by
    simp only [zeroOf, hi, hz', Option.some.injEq] at hz; exact hz
  subst hzz
  refine ⟨_, _, _, _, run_make w' t e i z' hu hi hz' kl kc n n h0 (Int.le_refl _) hby (by simp only [maxLen] at hl; omega), k _ _ ((H.go eq).add ?_ ?_ ?_)⟩
  · exact ⟨rfl, rfl, rfl, by simp, fun k hk _ => alloc_old w' _ k hk⟩
  · refine ⟨by rw [Array.length_toList, size_madeCells], .inr ⟨_, _, _, rfl, Nat.zero_le _, alloc_new w' _, Thaw.zero _, Nat.le_refl _, hl, Nat.le_of_eq (size_madeCells _ _).symm, ?_⟩⟩
    rw [List.take_of_length_le]
    rw [Array.length_toList, size_madeCells]; exact Nat.le_refl _
  · intro k hk; simp [Asn.foot, blks] at hk; subst hk; exact Nat.le_refl _
end
section
variable {P : Program} {B : List Nat} {w0 w w' : World} {L : List Asn} {t kT eT : TypeId} {z v : Value} {b : Nat}
theorem Hp.lkI {k : IntKind} {al : List (Int × Value)} (T : MapT P (intKey k) t kT eT z) (H : Hp B w0 w L) (e : Eqw w w') (m : Asn.imap b k al ∈ L) {x : Int} (hv : (aget al x).getD z = v) : Lk P t false w' (.map (some b)) (.int k x) v := by
  subst hv; exact (lk_map T ((H.go e).ok _ m) x).1
theorem Hp.lkIok {k : IntKind} {al : List (Int × Value)} (T : MapT P (intKey k) t kT eT z) (H : Hp B w0 w L) (e : Eqw w w') (m : Asn.imap b k al ∈ L) {x : Int} {o : Bool} (hv : (aget al x).getD z = v) (ho : (aget al x).isSome = o) : Lk P t true w' (.map (some b)) (.int k x) (.tuple #[v, .bool o]) := by
  subst hv; subst ho; exact (lk_map T ((H.go e).ok _ m) x).2
theorem Hp.lkS {al : List (ByteArray × Value)} (T : MapT P strKey t kT eT z) (H : Hp B w0 w L) (e : Eqw w w') (m : Asn.smap b al ∈ L) {x : ByteArray} (hv : (aget al x).getD z = v) : Lk P t false w' (.map (some b)) (.string x) v := by
  subst hv; exact (lk_map T ((H.go e).ok _ m) x).1
theorem Hp.lkSok {al : List (ByteArray × Value)} (T : MapT P strKey t kT eT z) (H : Hp B w0 w L) (e : Eqw w w') (m : Asn.smap b al ∈ L) {x : ByteArray} {o : Bool} (hv : (aget al x).getD z = v) (ho : (aget al x).isSome = o) : Lk P t true w' (.map (some b)) (.string x) (.tuple #[v, .bool o]) := by
  subst hv; subst ho; exact (lk_map T ((H.go e).ok _ m) x).2
theorem Hp.mupI {k : IntKind} {al : List (Int × Value)} (T : MapT P (intKey k) t kT eT z) (H : Hp B w0 w (.imap b k al :: L)) (e : Eqw w w') {x : Int} {G : World → Prop}
    (kk : ∀ w1, Hp B w0 w1 (.imap b k (aput al x v) :: L) → G w1) : ∃ w1, MUp P t w' (.map (some b)) (.int k x) v w1 ∧ G w1 := by
  obtain ⟨w1, h1, h2, h3⟩ := mup_map T ((H.go e).ok _ (.head _)) x v
  exact ⟨w1, h1, kk w1 ((H.go e).set h3 h2 fun k hk => .inl hk)⟩
theorem Hp.mupS {al : List (ByteArray × Value)} (T : MapT P strKey t kT eT z) (H : Hp B w0 w (.smap b al :: L)) (e : Eqw w w') {x : ByteArray} {G : World → Prop}
    (kk : ∀ w1, Hp B w0 w1 (.smap b (aput al x v) :: L) → G w1) : ∃ w1, MUp P t w' (.map (some b)) (.string x) v w1 ∧ G w1 := by
  obtain ⟨w1, h1, h2, h3⟩ := mup_map T ((H.go e).ok _ (.head _)) x v
  exact ⟨w1, h1, kk w1 ((H.go e).set h3 h2 fun k hk => .inl hk)⟩
end
theorem Hp.front {B : List Nat} {w0 w : World} {L : List Asn} {e : TypeId} {sz : Nat} {a : Option Addr} {n c F : Nat} {xs : List Value} (H : Hp B w0 w (.own e sz a n c xs :: L)) (hF : F ≤ n) : Hp B w0 w (.own e sz a F F (xs.take (F * sz)) :: L) :=
  H.set (Chg.refl _ _) (Own.front (H.ok _ (.head _)) hF) (fun k hk => .inl hk)
theorem Own.nil' (e : TypeId) (sz : Nat) (w : World) : (Asn.own e sz none 0 0 []).ok w := Own.nil w 0 e sz
theorem Hp.nilS {B : List Nat} {w0 w : World} {L : List Asn} (H : Hp B w0 w L) (e : TypeId) (sz : Nat) : Hp B w0 w (.own e sz none 0 0 [] :: L) :=
  H.add (Chg.refl _ _) (Own.nil' e sz w) (by simp [Asn.foot, blks])
end Go.Vc
namespace Go.Vc
open Go
def bt (n : Int) (k : Nat) : UInt8 := UInt8.ofNat ((n / 2 ^ (8 * k)) % 256).toNat
def be (n : Int) : Nat → List UInt8
  | 0 => []
  | k + 1 => bt n k :: be n k
theorem be_length (n : Int) (k : Nat) : (be n k).length = k := by
  induction k with
  | zero => rfl
  | succ k ih => simp [be, ih]
def bcells (l : List UInt8) : List Value := l.map fun b => Value.int .u8 (b.toNat : Int)
def sv (l : List UInt8) : Value := .string ⟨l.toArray⟩
theorem bcells_append (a b : List UInt8) : bcells (a ++ b) = bcells a ++ bcells b := by simp [bcells]
theorem bcells_length (a : List UInt8) : (bcells a).length = a.length := by simp [bcells]
theorem byteCells_mk (l : List UInt8) : byteCells ⟨l.toArray⟩ = bcells l := by simp [byteCells, bcells]
theorem byteCells_eq (s : ByteArray) : byteCells s = bcells s.data.toList := rfl
theorem wrap8_mod (x : Int) : IntKind.u8.wrap x = x % 256 := by
  simp [IntKind.wrap, IntKind.signed, IntKind.bits]
theorem bt_toNat (n : Int) (k : Nat) : ((bt n k).toNat : Int) = (n / 2 ^ (8 * k)) % 256 := by
  have h0 : 0 ≤ (n / 2 ^ (8 * k)) % 256 := Int.emod_nonneg _ (by omega)
  have h1 : (n / 2 ^ (8 * k)) % 256 < 256 := Int.emod_lt_of_pos _ (by omega)
  rw [bt]
  have : (UInt8.ofNat ((n / 2 ^ (8 * k)) % 256).toNat).toNat = ((n / 2 ^ (8 * k)) % 256).toNat := by
    rw [UInt8.toNat_ofNat']
    exact Nat.mod_eq_of_lt (by omega)
  rw [this]; omega
theorem shr_byte (i : Int) (m : Nat) (h : m < 8) (j : Int) (hj : j = m) : IntKind.u8.wrap (Int.fdiv i ((2 : Int) ^ min (Int.toNat ((8 : Int) * j)) (IntKind.bits IntKind.i64))) = ((bt i m).toNat : Int) := by
  subst hj
  rw [wrap8_mod, bt_toNat]
  have e1 : Int.toNat ((8 : Int) * (m : Int)) = 8 * m := by omega
  have e2 : min (8 * m) (IntKind.bits IntKind.i64) = 8 * m := by simp only [IntKind.bits]; omega
  rw [e1, e2, Int.fdiv_eq_ediv_of_nonneg _ (Int.le_of_lt (Int.pow_pos (by omega)))]
theorem add_add (a : Addr) (i j : Nat) : (a.add i).add j = a.add (i + j) := by
  obtain ⟨b, o, s⟩ := a
  by_cases hi : i = 0 <;> by_cases hj : j = 0 <;> simp [Addr.add, hi, hj, Nat.add_assoc]
theorem Cells.slA {w : World} {a : Option Addr} {xs : List Value} (h : Cells w a xs) {c i : Nat} (hc : xs.length ≤ c) : Cells w (slA a c i 1) (xs.drop i) := by
  intro j v hj
  rw [List.getElem?_drop] at hj
  obtain ⟨ad, rfl, hcell⟩ := h _ v hj
  have hlt := (List.getElem?_eq_some_iff.1 hj).1
  unfold Go.Vc.slA
  rw [if_neg (by omega)]
  exact ⟨_, rfl, by rw [add_add, Nat.mul_one]; exact hcell⟩
theorem Cells.take {w : World} {a : Option Addr} {xs : List Value} (h : Cells w a xs) (i : Nat) : Cells w a (xs.take i) := by
  intro j v hj
  rw [List.getElem?_take] at hj
  split at hj
  · exact h j v hj
  · cases hj
theorem bcells_one (l : List UInt8) : ∀ u ∈ bcells l, u.oneCell' = true := by
  intro u hu
  obtain ⟨_, _, rfl⟩ := List.mem_map.1 hu
  rfl
theorem bcells_drop (l : List UInt8) (n : Nat) : bcells (l.drop n) = (bcells l).drop n := by simp [bcells, List.map_drop]
theorem bcells_take (l : List UInt8) (n : Nat) : bcells (l.take n) = (bcells l).take n := by simp [bcells, List.map_take]
theorem Own.pos {w : World} {e : TypeId} {sz : Nat} {a : Option Addr} {n c : Nat} {xs : List Value} (h : Own w 0 e sz a n c xs) (hn : n ≠ 0) : a ≠ none := by
  rcases h.2 with ⟨_, h2, _⟩ | ⟨g, cur, fz, rfl, _⟩
  · exact absurd h2 hn
  · simp
end Go.Vc
namespace Go.Vc
open Go
theorem over_len (l : List Value) (o : Nat) (cs : List Value) (h : o + l.length ≤ cs.length) : (over l o cs).length = cs.length := over_length _ _ _ h
theorem over_take_in (l : List Value) (o : Nat) (cs : List Value) (n : Nat) (h : o + l.length ≤ n) (hn : n ≤ cs.length) : (over l o cs).take n = over l o (cs.take n) := by
  apply List.ext_getElem?
  intro k
  have h1 : o + l.length ≤ (cs.take n).length := by rw [List.length_take]; omega
  rw [List.getElem?_take, over_get l o cs (by omega), over_get l o (cs.take n) h1, List.getElem?_take]
  by_cases h2 : k < n
  · rw [if_pos h2, if_pos h2]
  · rw [if_neg h2, if_neg h2, if_neg (by omega)]
theorem Own.st {P : Program} {t : TypeId} {w : World} {e : TypeId} {sz : Nat} {a : Option Addr} {n c : Nat} {xs : List Value} (h : Own w 0 e sz a n c xs) {ad : Addr} (ha : a = some ad) {o : Nat} {v : Value} (hs : sizeV P t = some v.cells.size) (hv : v.cells.toList.all (·.oneCell') = true) (hl : o + v.cells.size ≤ xs.length) :
    ∃ w1, St P t w (ad.add o) v w1 ∧ Own w1 0 e sz a n c (over v.cells.toList o xs) ∧ Chg (blks a) w w1 := by
  have hlen := h.1
  rcases h.2 with ⟨rfl, _⟩ | ⟨g, cur, fz, rfl, hb, hg, hf, hnc, hcm, hcs, ht⟩
  · cases ha
  cases ha
  have hnm : n * sz ≤ c * sz := Nat.mul_le_mul_right _ hnc
  have hcur : w.heap[g]? = some (.cells cur.toList.toArray e fz) := by simpa using hg
  have hcl : cur.toList.length = cur.size := Array.length_toList
  have hvl : v.cells.toList.length = v.cells.size := Array.length_toList
  have hrun := run_storeCells_blk (P := P) (fz := fz) v.cells.toList w cur.toList ⟨g, o, none⟩ o 0 rfl (fun j => by simp [add_lit]) hcur (by omega) (fun k h1 h2 => hf k (by omega)) (fun u hu => List.all_eq_true.1 hv u hu)
  have e1 : (storeVar t ((⟨g, 0, none⟩ : Addr).add o) v).run P w = (storeCells ⟨g, o, none⟩ v.cells.toList).run P w := by
    rw [add_lit, Nat.zero_add]
    simp only [storeVar, Sem.run_bind, run_size hs, Result.andThen_ok]
    rw [if_neg (by simp)]
  refine ⟨_, e1.trans hrun, ?_, ?_⟩
  · split
    · rename_i hn; rw [hn, over_nil]; exact h
    · refine ⟨by rw [over_len _ _ _ (by omega)]; exact hlen, .inr ⟨g, _, fz, rfl, hb, setB_at (Array.getElem?_eq_some_iff.1 hg).1, ?_, hnc, hcm, ?_, ?_⟩⟩
      · rw [List.size_toArray, over_len _ _ _ (by omega), hcl]; exact hf
      · rw [List.size_toArray, over_len _ _ _ (by omega), hcl]; exact hcs
      · simp
        rw [over_take_in _ _ _ _ (by omega) (by omega), ht]
  · split
    · exact Chg.refl _ _
    · exact setB_chg _ _ _
theorem Own.at {w : World} {e : TypeId} {sz : Nat} {a : Option Addr} {n c : Nat} {xs : List Value} (h : Own w 0 e sz a n c xs) {j : Nat} (hj : j < xs.length) : ∃ ad, a = some ad ∧ w.cell? (ad.add j) = some xs[j] :=
  h.cells j _ (List.getElem?_eq_getElem hj)
theorem ld_at {P : Program} {w : World} {t : TypeId} (T : Scl P t) {ad : Addr} {v : Value} (h : w.cell? ad = some v) : Ld P t w ad v := ld_cell T.agg h
theorem Cells.ldA {P : Program} {w : World} {a : Option Addr} {xs : List Value} (h : Cells w a xs) {t : TypeId} {n : Nat} (T : Agg P t n) {ad : Addr} (ha : a = some ad) {o : Nat} {vs : List Value} (hv : (xs.drop o).take n = vs) (hl : vs.length = n) : Ld P t w (ad.add o) (.agg vs.toArray) := by
  subst hl ha
  refine ld_agg T.agg T.size fun j v hj => ?_
  rw [add_add]
  obtain ⟨ad', e1, e2⟩ := h (o + j) v (by
    rw [← hv, List.getElem?_take] at hj
    split at hj
    · simpa using hj
    · cases hj)
  cases e1; exact e2
theorem Cells.ld {P : Program} {w : World} {a : Option Addr} {xs : List Value} (h : Cells w a xs) {t : TypeId} (T : Scl P t) {ad : Addr} (ha : a = some ad) {o : Nat} {v : Value} (hv : xs[o]? = some v) : Ld P t w (ad.add o) v := by
  subst ha
  obtain ⟨ad', e1, e2⟩ := h o v hv
  cases e1; exact ld_cell T.agg e2
theorem Cells.some {w : World} {a : Option Addr} {xs : List Value} (h : Cells w a xs) (hx : xs ≠ []) : ∃ ad, a = some ad := by
  cases xs with
  | nil => exact absurd rfl hx
  | cons v r => obtain ⟨ad, e, _⟩ := h 0 v rfl; exact ⟨ad, e⟩
section
variable {P : Program} {B : List Nat} {w0 w w' : World} {L : List Asn} {e t : TypeId} {sz : Nat} {a : Option Addr} {n c o : Nat} {xs : List Value} {v : Value}
theorem Hp.stO (H : Hp B w0 w (.own e sz a n c xs :: L)) (eq : Eqw w w') {ad : Addr} (ha : a = some ad) (hs : sizeV P t = some v.cells.size) (hv : v.cells.toList.all (·.oneCell') = true) (hl : o + v.cells.size ≤ xs.length) {xs' : List Value} (hx : over v.cells.toList o xs = xs') {G : World → Prop}
    (k : ∀ w1, Hp B w0 w1 (.own e sz a n c xs' :: L) → G w1) : ∃ w1, St P t w' (ad.add o) v w1 ∧ G w1 := by
  obtain ⟨w1, h1, h2, h3⟩ := Own.st ((H.go eq).ok _ (.head _)) ha hs hv hl
  rw [hx] at h2
  exact ⟨w1, h1, k w1 ((H.go eq).set h3 h2 fun k hk => .inl hk)⟩
end
theorem over1 (v : Value) (o : Nat) (xs : List Value) (h : o < xs.length) : over [v] o xs = xs.set o v := by
  rw [over_cons v [] o xs h, over_nil]
section
variable {P : Program} {B : List Nat} {w0 w w' : World} {L : List Asn} {e t : TypeId} {sz : Nat} {a : Option Addr} {n c o : Nat} {xs : List Value} {v : Value}
theorem Hp.stO1 (H : Hp B w0 w (.own e sz a n c xs :: L)) (eq : Eqw w w') (T : Scl P t) {ad : Addr} (ha : a = some ad) (hv : v.cells = #[v]) (h1 : v.oneCell' = true) (hl : o < xs.length) {G : World → Prop}
    (k : ∀ w1, Hp B w0 w1 (.own e sz a n c (xs.set o v) :: L) → G w1) : ∃ w1, St P t w' (ad.add o) v w1 ∧ G w1 :=
  Hp.stO H eq ha (by rw [hv]; exact T.size) (by rw [hv]; simpa using h1) (by rw [hv]; exact hl) (by rw [hv]; exact over1 v o xs hl) k
end
def objA (l : Nat) (o : Obj) : Asn := .any [l] fun w => w.heap[l]? = some o
theorem objA_ok {l : Nat} {o : Obj} {w : World} (h : w.heap[l]? = some o) : (objA l o).ok w :=
  ⟨fun k hk => by rw [List.mem_singleton] at hk; subst hk; exact (Array.getElem?_eq_some_iff.1 h).1, fun w' he => (he l (by simp)).trans h⟩
section
variable {P : Program} {B : List Nat} {w0 w w' w1 : World} {L : List Asn} {l : Nat} {o o' : Obj}
theorem Hp.obj (H : Hp B w0 w L) (m : objA l o ∈ L) : w.heap[l]? = some o := (H.ok _ m).2 w fun _ _ => rfl
theorem Hp.newO (H : Hp B w0 w L) (e : Eqw w w') (h : New w' o l w1) : Hp B w0 w1 (objA l o :: L) :=
  (H.go e).add h.chg (objA_ok h.blk) (by intro k hk; simp [objA, Asn.foot] at hk; subst hk; exact h.num ▸ Nat.le_refl _)
theorem Hp.putO (H : Hp B w0 w (objA l o :: L)) : Hp B w0 (w.putObj l o') (objA l o' :: L) := by
  have hl : l < w.heap.size := (Array.getElem?_eq_some_iff.1 (H.obj (.head _))).1
  exact H.set (setB_chg w l o') (objA_ok (World.putObj_heap_same hl)) (fun k hk => .inl hk)
theorem Hp.shut (H : Hp B w0 w (objA l (.deferred (some [])) :: L)) {G : World → Prop} (k : ∀ w1, Hp B w0 w1 L → G w1) : ∃ w1, ShutD w l w1 ∧ G w1 :=
  ⟨_, ⟨H.obj (.head _), rfl⟩, k _ (H.putO (o' := .deferred none)).drop⟩
end
theorem callX {P : Program} {fv : Value} {args : List Value} {w : World} {R R' : Ending → World → Prop} (h : CallX P fv args w R) (hr : ∀ e w', R e w' → R' e w') : CallX P fv args w R' := callX_mono hr h
end Go.Vc
namespace Go.Vc
open Go
def leftL (es : Array MapEntry) (seen : Array Nat) : List MapEntry := es.toList.filter fun e => !seen.contains e.born
theorem leftL_start (es : Array MapEntry) : leftL es #[] = es.toList := by
  simp [leftL]
theorem filter_ne : ∀ {l : List MapEntry} {e : MapEntry}, e ∈ l → (l.map (·.born)).Nodup → l.Perm (e :: l.filter fun x => !decide (x.born = e.born))
  | x :: r, e, h, hn => by
    simp only [List.map_cons, List.nodup_cons] at hn
    rw [List.filter_cons]
    by_cases hx : x.born = e.born
    · have hxe : x = e := by
        rcases List.mem_cons.1 h with rfl | h
        · rfl
        · exact absurd (hx ▸ List.mem_map.2 ⟨e, h, rfl⟩) hn.1
      subst hxe
      simp only [decide_true, Bool.not_true, Bool.false_eq_true, if_false]
      refine List.Perm.cons _ ?_
      rw [List.filter_eq_self.2]
      intro y hy
      have : y.born ≠ x.born := fun e => hn.1 (e ▸ List.mem_map.2 ⟨y, hy, rfl⟩)
      simp [this]
    · have hr : e ∈ r := by
        rcases List.mem_cons.1 h with rfl | h
        · exact absurd rfl hx
        · exact h
      simp only [hx, decide_false, Bool.not_false, if_true]
      exact ((filter_ne hr hn.2).cons x).trans (.swap _ _ _)
theorem leftL_push {es : Array MapEntry} {seen : Array Nat} {e : MapEntry} (hn : (es.toList.map (·.born)).Nodup) (he : e ∈ leftL es seen) : (leftL es seen).Perm (e :: leftL es (seen.push e.born)) := by
  have hn2 : ((leftL es seen).map (·.born)).Nodup := hn.sublist ((List.filter_sublist ..).map _)
  refine (filter_ne he hn2).trans ?_
  refine List.Perm.cons _ (List.Perm.of_eq ?_)
  simp only [leftL, List.filter_filter]
  congr 1
  funext x
  simp only [Array.contains_push, Bool.not_or]
  rw [Bool.and_comm]
  congr 1
theorem leftOf_list (es : Array MapEntry) (seen : Array Nat) : (leftOf es seen).toList = leftL es seen := by simp [leftOf, leftL]
section
variable {P : Program} {B : List Nat} {w0 w w' : World} {L : List Asn} {t kT eT : TypeId} {b it clock : Nat} {es : Array MapEntry} {seen : Array Nat} {ty : TypeId}
theorem Hp.rng (H : Hp B w0 w L) (eq : Eqw w w') (hu : P.underlying t = some (.map kT eT)) (hb : w.heap[b]? = some (.map es clock)) {G : Option Addr → World → Prop}
    (k : ∀ it w1, Hp B w0 w1 (objA it (.mapIter (some b) clock #[] clock) :: L) → G (some ⟨it, 0, none⟩) w1) : ∃ (p : Option Addr) (w1 : World), Rng P t w' (.map (some b)) (.pointer p) w1 ∧ G p w1 := by
  have hb' : w'.heap[b]? = some (.map es clock) := by rw [eq.heap]; exact hb
  refine ⟨some ⟨w'.heap.size, 0, none⟩, w'.alloc (.mapIter (some b) clock #[] clock), ?_, k _ _ (H.newO eq ⟨rfl, rfl⟩)⟩
  simp only [Rng, Instr.range, Sem.run_bind, run_und hu, Result.andThen_ok, run_getObj_map hb', Sem.run_pure]
  rfl
theorem Hp.nxt (H : Hp B w0 w (objA it (.mapIter (some b) clock seen clock) :: L)) (eq : Eqw w w') (hb : w.heap[b]? = some (.map es clock)) (hold : ∀ e ∈ es.toList, e.born < clock) (hn : (es.toList.map (·.born)).Nodup)
    {G0 : World → Prop} {G1 : Value → Value → World → Prop}
    (k0 : leftL es seen = [] → G0 w')
    (k1 : ∀ (e : MapEntry) (w1 : World), e ∈ es.toList → (leftL es seen).Perm (e :: leftL es (seen.push e.born)) → Hp B w0 w1 (objA it (.mapIter (some b) clock (seen.push e.born) clock) :: L) →
      (Instr.entry (.pointer (some ⟨it, 0, none⟩))).run P w1 = .ok (.tuple #[e.key, e.val]) w1 → G1 e.key e.val w1) :
    (∃ w1, Nxt P false ty w' (.pointer (some ⟨it, 0, none⟩)) (.tuple #[.bool false]) w1 ∧ G0 w1) ∨ (∃ (k v : Value) (w1 : World), Nxt P false ty w' (.pointer (some ⟨it, 0, none⟩)) (.tuple #[.bool true, k, v]) w1 ∧ G1 k v w1) := by
  have H1 := H.go eq
  have hi : w'.heap[it]? = some (.mapIter (some b) clock seen clock) := H1.obj (.head _)
  have hb' : w'.heap[b]? = some (.map es clock) := by rw [eq.heap]; exact hb
  rcases run_next_at w' ty it b clock clock seen es clock hi hb' hold (Nat.le_refl _) with ⟨h1, h2⟩ | ⟨e, he, w1, hw, h2⟩
  · refine .inl ⟨w', h2, k0 ?_⟩
    rw [← leftOf_list]
    exact List.eq_nil_of_length_eq_zero (by simpa using h1)
  · rw [leftOf_list] at he
    have hmem : e ∈ es.toList := (List.mem_filter.1 he).1
    have e1 : Eqw w' w1 := by rcases hw with rfl | rfl <;> exact ⟨rfl, rfl, rfl, rfl⟩
    have H2 := H1.go e1
    have hne : it ≠ b := by
      rintro rfl
      rw [hb'] at hi; cases hi
    have H3 : Hp B w0 (setB w1 it (.mapIter (some b) clock (seen.push e.born) clock)) (objA it (.mapIter (some b) clock (seen.push e.born) clock) :: L) := H2.putO (o' := .mapIter (some b) clock (seen.push e.born) clock)
    have hset : ChangeMaps.setBlock w1 it (.mapIter (some b) clock (seen.push e.born) clock) = setB w1 it (.mapIter (some b) clock (seen.push e.born) clock) := rfl
    rw [hset] at h2
    refine .inr ⟨_, _, _, h2, k1 e _ hmem (leftL_push hn he) H3 ?_⟩
    refine run_entry_at _ it b clock seen es clock e (H3.obj (.head _)) ?_ hmem hn
    have : (setB w1 it (.mapIter (some b) clock (seen.push e.born) clock)).heap[b]? = w1.heap[b]? := by
      have hc := setB_chg w1 it (.mapIter (some b) clock (seen.push e.born) clock)
      have hlt : b < w1.heap.size := by rw [e1.heap]; exact (Array.getElem?_eq_some_iff.1 hb').1
      exact hc.2.2.2.2 b hlt (by simpa using fun h => hne h.symm)
    rw [this, e1.heap]; exact hb'
end
section
variable {P : Program} {B : List Nat} {w0 w w' : World} {L : List Asn} {e t : TypeId} {sz n c o m : Nat} {a : Option Addr} {xs : List Value} {v : Value}
theorem Hp.ldO (H : Hp B w0 w L) (eq : Eqw w w') (S : Scl P t) (mm : Asn.own e sz a n c xs ∈ L) (ho : xs[o]? = some v) : ∃ ad, a = some ad ∧ Ld P t w' (ad.add o) v := by
  have hc := ((H.go eq).ownA mm).cells
  obtain ⟨ad, ha, _⟩ := hc o v ho
  exact ⟨ad, ha, hc.ld S ha ho⟩
theorem Hp.ldOA (H : Hp B w0 w L) (eq : Eqw w w') (S : Agg P t m) (hm : 0 < m) (mm : Asn.own e sz a n c xs ∈ L) {vs : List Value} (ho : (xs.drop o).take m = vs) (hl : vs.length = m) : ∃ ad, a = some ad ∧ Ld P t w' (ad.add o) (.agg vs.toArray) := by
  have hc := ((H.go eq).ownA mm).cells
  have hx : xs ≠ [] := by
    rintro rfl
    rw [List.drop_nil, List.take_nil] at ho
    subst ho; simp at hl; omega
  obtain ⟨ad, ha⟩ := hc.some hx
  exact ⟨ad, ha, hc.ldA S ha ho hl⟩
end
end Go.Vc
namespace Go.Vc
open Go
def sEq : Value → Value → Bool
  | .int _ a, .int _ b => decide (a = b)
  | .bool a, .bool b => a == b
  | .string a, .string b => decide (a = b)
  | _, _ => false
theorem beqB (a b : ByteArray) : (a == b) = decide (a = b) := by
  obtain ⟨x⟩ := a
  obtain ⟨y⟩ := b
  show (x == y) = _
  rw [Bool.eq_iff_iff]
  simp
def kdB (P : Program) (t : TypeId) (k : Kd) : Bool := match P.underlying t, k with
  | some (.int q), .inl q' => decide (q = q')
  | some .bool, .inr 0 => true
  | some .string, .inr 1 => true
  | _, _ => false
def flatFs (P : Program) : List Field → List (Nat × Kd) → Bool
  | [], [] => true
  | f :: fs, (o, k) :: l => Nat.beq f.offset o && f.name != "_" && kdB P f.type k && flatFs P fs l
  | _, _ => false
structure FlatT (P : Program) (t : TypeId) (l : List (Nat × Kd)) : Prop where
  und : ∃ fs, P.underlying t = some (.struct fs) ∧ flatFs P fs.toList l = true
  guard : P.eqGuardType P.depth t = false
  stood : P.stoodInHeld t = false
def flatB (P : Program) (t : TypeId) (l : List (Nat × Kd)) : Bool := match P.underlying t with
  | some (.struct fs) => flatFs P fs.toList l && !P.eqGuardType P.depth t && !P.stoodInHeld t
  | _ => false
theorem flat_of {P : Program} {t : TypeId} {l : List (Nat × Kd)} (h : flatB P t l = true) : FlatT P t l := by
  unfold flatB at h
  split at h
  · rename_i fs hu
    simp at h
    exact ⟨⟨fs, hu, h.1.1⟩, h.1.2, h.2⟩
  · cases h
def fitL (l : List (Nat × Kd)) (cs : List Value) : Bool := l.all fun p => match cs[p.1]? with
  | some v => (fromV p.2 v).isSome
  | none => false
def eqL (l : List (Nat × Kd)) (xs ys : List Value) : Bool := l.all fun p => match xs[p.1]?, ys[p.1]? with
  | some a, some b => sEq a b
  | _, _ => false
section
variable {P : Program} {w : World}
theorem run_sEq {t : TypeId} {k : Kd} {a b : Value} {d : Nat} (hk : kdB P t k = true) (ha : (fromV k a).isSome = true) (hb : (fromV k b).isSome = true) : (Op.equalIn (d + 1) t a b).run P w = .ok (sEq a b) w := by
  unfold kdB at hk
  split at hk
  · rename_i q q' hu
    have := of_decide_eq_true hk; subst this
    cases a <;> simp only [fromV, Option.isSome_none, Bool.false_eq_true] at ha
    cases b <;> simp only [fromV, Option.isSome_none, Bool.false_eq_true] at hb
    split at ha
    · split at hb
      · rename_i e1 _ e2
        have e1 := of_decide_eq_true e1
        have e2 := of_decide_eq_true e2
        subst e1; subst e2
        exact (run_equalIn_int w d t _ _ _ _ hu).trans (by rw [sEq, Bool.beq_eq_decide_eq])
      · cases hb
    · cases ha
  · rename_i hu
    cases a <;> simp [fromV] at ha
    cases b <;> simp [fromV] at hb
    exact run_equalIn_bool w d t _ _ hu
  · rename_i hu
    cases a <;> simp [fromV] at ha
    cases b <;> simp [fromV] at hb
    simp [Op.equalIn, run_underlying hu, sEq, beqB]
  · cases hk
theorem run_part_kd {t : TypeId} {k : Kd} {xs : Array Value} {o : Nat} {v : Value} (hk : kdB P t k = true) (hx : xs[o]? = some v) : (part t xs o).run P w = .ok v w := by
  refine run_part_plain w ?_ hx
  unfold kdB at hk
  unfold Program.plainKey
  split at hk <;> simp_all
theorem run_eqFields {d : Nat} {xs ys : List Value} : ∀ (fs : List Field) (l : List (Nat × Kd)), flatFs P fs l = true → fitL l xs = true → fitL l ys = true → (Op.eqFields (d + 1) xs.toArray ys.toArray fs).run P w = .ok (eqL l xs ys) w
  | [], [], _, _, _ => rfl
  | f :: fs, (o, k) :: l, h, hx, hy => by
    simp only [flatFs, Bool.and_eq_true] at h
    obtain ⟨⟨⟨h1, h2⟩, h3⟩, h4⟩ := h
    have := Nat.eq_of_beq_eq_true h1; subst this
    simp only [fitL, List.all_cons, Bool.and_eq_true] at hx hy
    cases ha : xs[f.offset]? with
    | none => rw [ha] at hx; cases hx.1
    | some a =>
      cases hb : ys[f.offset]? with
      | none => rw [hb] at hy; cases hy.1
      | some b =>
        rw [ha] at hx; rw [hb] at hy
        have ih := run_eqFields (d := d) fs l h4 hx.2 hy.2
        simp only [Op.eqFields]
        rw [if_pos (by simpa using h2)]
        simp only [Sem.run_bind, run_part_kd (w := w) h3 (show xs.toArray[f.offset]? = some a by simpa using ha), run_part_kd h3 (show ys.toArray[f.offset]? = some b by simpa using hb), Result.andThen_ok, run_sEq h3 hx.1 hy.1]
        have he : eqL ((f.offset, k) :: l) xs ys = (sEq a b && eqL l xs ys) := by simp only [eqL, List.all_cons, ha, hb]
        rw [he]
        cases sEq a b with
        | true => simpa using ih
        | false => simp
theorem run_flat {t : TypeId} {l : List (Nat × Kd)} (T : FlatT P t l) {xs ys : List Value} (hx : fitL l xs = true) (hy : fitL l ys = true) : (Op.equalIn 10000 t (.agg xs.toArray) (.agg ys.toArray)).run P w = .ok (eqL l xs ys) w := by
  obtain ⟨⟨fs, hu, hf⟩, hg, hs⟩ := T
  have e : P.fieldsOf t = fs := by simp [Program.fieldsOf, hu]
  rw [run_equalIn_struct w 9999 t _ _ (by rw [e]; exact hu) hs, e]
  exact run_eqFields fs.toList l hf hx hy
theorem eqv_eql {t : TypeId} {l : List (Nat × Kd)} (T : FlatT P t l) {xs ys : List Value} {x y : Operand} {b : Bool} (hx : fitL l xs = true) (hy : fitL l ys = true) (hb : eqL l xs ys = b) : Eqv P .eql t x y w (.agg xs.toArray) (.agg ys.toArray) b := by
  subst hb
  simp only [Eqv, Sem.run_bind, run_eqGuard_agg w .eql t x y _ _ T.guard, Result.andThen_ok, run_eql_struct, run_flat T hx hy]
theorem eqv_neq {t : TypeId} {l : List (Nat × Kd)} (T : FlatT P t l) {xs ys : List Value} {x y : Operand} {b : Bool} (hx : fitL l xs = true) (hy : fitL l ys = true) (hb : (!eqL l xs ys) = b) : Eqv P .neq t x y w (.agg xs.toArray) (.agg ys.toArray) b := by
  subst hb
  simp only [Eqv, Sem.run_bind, run_eqGuard_agg w .neq t x y _ _ T.guard, Result.andThen_ok, run_neq_struct, run_flat T hx hy]
end
end Go.Vc
namespace Go.Vc
open Go
structure PairT (P : Program) (t : TypeId) : Prop where
  und : ∃ f g, P.underlying t = some (.struct #[f, g]) ∧ f.offset = 0 ∧ g.offset = 1 ∧ f.name ≠ "_" ∧ g.name ≠ "_" ∧ kdB P f.type (.inl .i64) = true ∧ kdB P g.type (.inl .i64) = true
  flat : FlatT P t [(0, .inl .i64), (1, .inl .i64)]
def pairB (P : Program) (t : TypeId) : Bool := match P.underlying t with
  | some (.struct ⟨[f, g]⟩) => Nat.beq f.offset 0 && Nat.beq g.offset 1 && f.name != "_" && g.name != "_" && kdB P f.type (.inl .i64) && kdB P g.type (.inl .i64)
  | _ => false
theorem pair_of {P : Program} {t : TypeId} (h : pairB P t = true) (h' : flatB P t [(0, .inl .i64), (1, .inl .i64)] = true) : PairT P t := by
  refine ⟨?_, flat_of h'⟩
  unfold pairB at h
  split at h
  · rename_i f g hu
    simp only [Bool.and_eq_true, bne_iff_ne, ne_eq] at h
    obtain ⟨⟨⟨⟨⟨h1, h2⟩, h3⟩, h4⟩, h5⟩, h6⟩ := h
    exact ⟨f, g, hu, Nat.eq_of_beq_eq_true h1, Nat.eq_of_beq_eq_true h2, h3, h4, h5, h6⟩
  · cases h
def pairV (p : Int × Int) : Value := .agg #[.int .i64 p.1, .int .i64 p.2]
section
variable {P : Program} {t : TypeId} {w : World}
theorem run_checkInt {t : TypeId} {k : Kd} {v : Value} {em : Bool} {n : Nat} (h : kdB P t k = true) : (Instr.checkKey em (n + 1) t v).run P w = .ok () w := by
  unfold kdB at h
  split at h
  · rename_i hu; simp only [Instr.checkKey, Sem.run_bind, run_und hu, Result.andThen_ok, Sem.run_pure]
  · rename_i hu; simp only [Instr.checkKey, Sem.run_bind, run_und hu, Result.andThen_ok, Sem.run_pure]
  · rename_i hu; simp only [Instr.checkKey, Sem.run_bind, run_und hu, Result.andThen_ok, Sem.run_pure]
  · cases h
theorem pair_check (T : PairT P t) (em : Bool) (p : Int × Int) (w : World) : (Instr.checkKey em 10000 t (pairV p)).run P w = .ok () w := by
  obtain ⟨⟨f, g, hu, hf, hg, hfn, hgn, hft, hgt⟩, _⟩ := T
  rw [Instr.checkKey]
  simp only [pairV, Sem.run_bind, run_und hu, Result.andThen_ok]
  rw [← Array.forIn_toList]
  simp only [List.forIn_cons, List.forIn_nil, Sem.run_bind, hfn, hgn, ne_eq, not_false_eq_true, if_true, Result.andThen_ok, run_part_kd (w := w) hft (show (#[Value.int .i64 p.1, Value.int .i64 p.2] : Array Value)[f.offset]? = some (.int .i64 p.1) by rw [hf]; rfl),
    run_part_kd hgt (show (#[Value.int .i64 p.1, Value.int .i64 p.2] : Array Value)[g.offset]? = some (.int .i64 p.2) by rw [hg]; rfl), run_checkInt hft, run_checkInt hgt, Sem.run_pure]
theorem pair_equal (T : PairT P t) (a b : Int × Int) (w : World) : (Op.equal t (pairV a) (pairV b)).run P w = .ok (decide (a = b)) w := by
  have := run_flat (w := w) T.flat (xs := [.int .i64 a.1, .int .i64 a.2]) (ys := [.int .i64 b.1, .int .i64 b.2]) (by simp [fitL, fromV]; exact ⟨rfl, rfl⟩) (by simp [fitL, fromV]; exact ⟨rfl, rfl⟩)
  refine this.trans ?_
  simp only [eqL, List.all_cons, List.all_nil, List.getElem?_cons_zero, List.getElem?_cons_succ, sEq, Bool.and_true]
  congr 1
  rw [← Bool.decide_and]
  exact decide_eq_decide.2 ⟨fun h => Prod.ext h.1 h.2, fun h => by rw [h]; exact ⟨rfl, rfl⟩⟩
def ReadsP (es : List MapEntry) (al : List ((Int × Int) × Value)) : Prop := es.map (fun e => (e.key, e.val)) = al.map fun p => (pairV p.1, p.2)
def MapP (w : World) (b : Nat) (al : List ((Int × Int) × Value)) : Prop :=
  ∃ es clock, w.heap[b]? = some (.map es clock) ∧ ReadsP es.toList al ∧ (es.toList.map (·.born)).Nodup ∧ ∀ e ∈ es.toList, e.born < clock
theorem find_ask (T : PairT P t) (w : World) : ∀ {es : List MapEntry} {al : List ((Int × Int) × Value)} (i : Nat) (k : Int × Int), ReadsP es al →
    (aget al k = none ∧ (Instr.findAsking t (pairV k) es i).run P w = .ok none w) ∨
    ∃ j v e, aget al k = some v ∧ (Instr.findAsking t (pairV k) es i).run P w = .ok (some (i + j, v)) w ∧ es[j]? = some e ∧ e.key = pairV k ∧ e.val = v ∧
      (∀ v', ReadsP (es.modify j fun e => { e with key := pairV k, val := v' }) (aput al k v'))
  | [], al, i, k, h => by
    have : al = [] := by cases al with
      | nil => rfl
      | cons p r => simp [ReadsP] at h
    subst this
    exact .inl ⟨rfl, rfl⟩
  | e :: es, al, i, k, h => by
    cases al with
    | nil => simp [ReadsP] at h
    | cons p al =>
      obtain ⟨x, u⟩ := p
      simp only [ReadsP, List.map_cons, List.cons.injEq, Prod.mk.injEq] at h
      obtain ⟨⟨hk, hv⟩, h⟩ := h
      simp only [Instr.findAsking, Sem.run_bind, hk, pair_equal T, Result.andThen_ok, aget, aput]
      by_cases hkx : k = x
      · subst hkx
        right
        refine ⟨0, u, e, by simp, by simp [hv], by simp, hk, hv, fun v' => ?_⟩
        simp only [if_true, ReadsP, List.modify_zero_cons, List.map_cons, hk]
        rw [h]
      · simp only [hkx, decide_false, if_false, Bool.false_eq_true]
        rcases find_ask T w (i + 1) k h with ⟨h1, h2⟩ | ⟨j, v, e', h1, h2, h3, h4, h5, h6⟩
        · exact .inl ⟨h1, h2⟩
        · right
          refine ⟨j + 1, v, e', h1, by rw [h2]; congr 3; omega, by simpa using h3, h4, h5, fun v' => ?_⟩
          have := h6 v'
          simp only [ReadsP, List.modify_succ_cons, List.map_cons, hk, hv] at this ⊢
          rw [this]
theorem aput_none {K : Type} [DecidableEq K] {k : K} {v : Value} : ∀ (al : List (K × Value)), aget al k = none → aput al k v = al ++ [(k, v)]
  | [], _ => rfl
  | (x, u) :: r, hn => by
    simp only [aget] at hn
    split at hn
    · cases hn
    · rename_i hne
      simp only [aput, if_neg hne, aput_none r hn, List.cons_append]
theorem PairT.wide (T : PairT P t) : (match P.underlying t with | some (.array _ _) | some (.struct _) => true | _ => false) = true := by
  obtain ⟨⟨f, g, hu, _⟩, _⟩ := T
  rw [hu]
structure MapPT (P : Program) (t kT eT : TypeId) (z : Value) : Prop where
  und : P.underlying t = some (.map kT eT)
  key : PairT P kT
  zero : zeroOf P eT = some z
theorem lk_pair {kT eT : TypeId} {z : Value} (T : MapPT P t kT eT z) {b : Nat} {al : List ((Int × Int) × Value)} (h : MapP w b al) (k : Int × Int) :
    Lk P t false w (.map (some b)) (pairV k) ((aget al k).getD z) ∧ Lk P t true w (.map (some b)) (pairV k) (.tuple #[(aget al k).getD z, .bool (aget al k).isSome]) := by
  obtain ⟨es, clock, h1, h2, h3⟩ := h
  have hck : ∀ e, (Instr.checkKey e 10000 kT (pairV k)).run P w = .ok () w := fun e => pair_check T.key e k w
  have hfk : (Instr.findKey kT (pairV k) es.toList).run P w = (Instr.findAsking kT (pairV k) es.toList).run P w := run_findKey_eq w T.key.wide _ _
  rcases find_ask T.key w 0 k h2 with ⟨g1, g2⟩ | ⟨j, v, e, g1, g2, -⟩
  · simp only [Lk, Instr.lookup, Sem.run_bind, run_und T.und, Result.andThen_ok, run_getObj_map h1, Sem.run_pure, hck, hfk, g2, Sem.run_map, run_zero T.zero, g1]
    constructor <;> rfl
  · simp only [Lk, Instr.lookup, Sem.run_bind, run_und T.und, Result.andThen_ok, run_getObj_map h1, Sem.run_pure, hck, hfk, g2, g1]
    constructor <;> rfl
theorem mup_pair {kT eT : TypeId} {z : Value} (T : MapPT P t kT eT z) {b : Nat} {al : List ((Int × Int) × Value)} (h : MapP w b al) (k : Int × Int) (v : Value) :
    ∃ w1, MUp P t w (.map (some b)) (pairV k) v w1 ∧ MapP w1 b (aput al k v) ∧ Chg [b] w w1 := by
  obtain ⟨es, clock, h1, h2, h3, h4⟩ := h
  have hck : ∀ e, (Instr.checkKey e 10000 kT (pairV k)).run P w = .ok () w := fun e => pair_check T.key e k w
  have hfk : (Instr.findKey kT (pairV k) es.toList).run P w = (Instr.findAsking kT (pairV k) es.toList).run P w := run_findKey_eq w T.key.wide _ _
  have hlt := (Array.getElem?_eq_some_iff.1 h1).1
  rcases find_ask T.key w 0 k h2 with ⟨g1, g2⟩ | ⟨j, u, e, g1, g2, g3, g4, g5, g6⟩
  · refine ⟨setB w b (.map (es.push { key := pairV k, val := v, born := clock }) (clock + 1)), ?_, ⟨_, _, setB_at hlt, ?_, ?_, ?_⟩, setB_chg _ _ _⟩
    · simp only [MUp, Instr.mapUpdate, Sem.run_bind, run_und T.und, Result.andThen_ok, run_getObj_map h1, hck, hfk, g2, run_setObj_map h1]
    · rw [Array.toList_push, aput_none al g1]
      simp only [ReadsP, List.map_append, List.map_cons, List.map_nil] at h2 ⊢
      rw [h2]
    · rw [Array.toList_push, List.map_append, List.nodup_append]
      refine ⟨h3, by simp, ?_⟩
      intro a ha c hc
      simp at hc; subst hc
      obtain ⟨e, he, rfl⟩ := List.mem_map.1 ha
      exact Nat.ne_of_lt (h4 e he)
    · intro e he
      rw [Array.toList_push] at he
      rcases List.mem_append.1 he with he | he
      · exact Nat.lt_succ_of_lt (h4 e he)
      · simp at he; subst he; exact Nat.lt_succ_self _
  · have hj : es[j]? = some e := by simpa using g3
    refine ⟨setB w b (.map (es.modify j fun e => { e with key := pairV k, val := v }) clock), ?_, ⟨_, _, setB_at hlt, ?_, ?_, ?_⟩, setB_chg _ _ _⟩
    · rw [Nat.zero_add] at g2
      have hb : Instr.sameBits 10000 (pairV k) (pairV k) = true := by
        simp [Instr.sameBits, pairV]
      have hstay : (Instr.keyThatStays (pairV k) (pairV k)).run P w = .ok (pairV k) w := by
        simp [Instr.keyThatStays, hb]
      simp only [MUp, Instr.mapUpdate, Sem.run_bind, run_und T.und, Result.andThen_ok, run_getObj_map h1, hck, hfk, g2, hj, Option.map_some, Option.getD_some, g4, hstay, run_setObj_map h1]
    · rw [Array.toList_modify]; exact g6 v
    · rw [Array.toList_modify, born_modify]; exact h3
    · intro e' he'
      have : e'.born ∈ (es.modify j fun e => { e with key := pairV k, val := v }).toList.map (·.born) := List.mem_map.2 ⟨e', he', rfl⟩
      rw [Array.toList_modify, born_modify] at this
      obtain ⟨e2, he2, e3⟩ := List.mem_map.1 this
      rw [← e3]; exact h4 e2 he2
def pmapA (b : Nat) (al : List ((Int × Int) × Value)) : Asn := .any [b] fun w => MapP w b al
theorem pmap_ok {b : Nat} {al : List ((Int × Int) × Value)} {w : World} (h : MapP w b al) : (pmapA b al).ok w :=
  ⟨by intro k hk; simp at hk; subst hk; obtain ⟨es, c, h1, _⟩ := h; exact (Array.getElem?_eq_some_iff.1 h1).1, fun w' e => by
    obtain ⟨es, c, h1, h2⟩ := h
    exact ⟨es, c, (e b (by simp)).trans h1, h2⟩⟩
theorem pmap_get {b : Nat} {al : List ((Int × Int) × Value)} {w : World} (h : (pmapA b al).ok w) : MapP w b al := h.2 w fun _ _ => rfl
variable {B : List Nat} {w0 w' : World} {L : List Asn} {kT eT : TypeId} {z v : Value} {b : Nat}
theorem Hp.newP (H : Hp B w0 w L) (e : Eqw w w') {w1 : World} (h : New w' (.map #[] 0) b w1) : Hp B w0 w1 (pmapA b [] :: L) :=
  (H.go e).add h.chg (pmap_ok ⟨#[], 0, h.blk, rfl, by simp, by simp⟩) (by simp [Asn.foot, pmapA]; exact h.num ▸ Nat.le_refl _)
theorem Hp.lkP {al : List ((Int × Int) × Value)} (T : MapPT P t kT eT z) (H : Hp B w0 w L) (e : Eqw w w') (m : pmapA b al ∈ L) {x : Int × Int} (hv : (aget al x).getD z = v) : Lk P t false w' (.map (some b)) (pairV x) v := by
  subst hv; exact (lk_pair T (pmap_get ((H.go e).ok _ m)) x).1
theorem Hp.lkPok {al : List ((Int × Int) × Value)} (T : MapPT P t kT eT z) (H : Hp B w0 w L) (e : Eqw w w') (m : pmapA b al ∈ L) {x : Int × Int} {o : Bool} (hv : (aget al x).getD z = v) (ho : (aget al x).isSome = o) : Lk P t true w' (.map (some b)) (pairV x) (.tuple #[v, .bool o]) := by
  subst hv; subst ho; exact (lk_pair T (pmap_get ((H.go e).ok _ m)) x).2
theorem Hp.mupP {al : List ((Int × Int) × Value)} (T : MapPT P t kT eT z) (H : Hp B w0 w (pmapA b al :: L)) (e : Eqw w w') {x : Int × Int} {G : World → Prop}
    (kk : ∀ w1, Hp B w0 w1 (pmapA b (aput al x v) :: L) → G w1) : ∃ w1, MUp P t w' (.map (some b)) (pairV x) v w1 ∧ G w1 := by
  obtain ⟨w1, h1, h2, h3⟩ := mup_pair T (pmap_get ((H.go e).ok _ (.head _))) x v
  exact ⟨w1, h1, kk w1 ((H.go e).set h3 (pmap_ok h2) fun k hk => .inl hk)⟩
end
end Go.Vc
