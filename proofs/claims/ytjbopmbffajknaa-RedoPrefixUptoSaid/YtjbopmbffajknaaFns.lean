/- Of each function the statement that the calculus reckons, printed by a program, and that it is that statement. -/
import Derived.Test.YtjbopmbffajknaaVcCode
import Derived.Test.YtjbopmbffajknaaChecked
set_option linter.unusedVariables false
set_option maxRecDepth 100000
namespace Go.Proofs.Ytjbopmbffajknaa
open Go Go.Vc

/-- no function bears the name that the model takes apart -/
theorem noNum : NoNum Go.Proofs.Try.prog := by
  have h : Go.Proofs.Try.prog.funcs.toList.all (fun fn => !(fn.name == "runtime.NumGoroutine")) = true := by kernel_rfl
  intro f fn hf
  have := List.all_eq_true.1 h fn (by have := Array.mem_of_getElem? hf; simpa using this)
  simpa using this

/-- incunable/vault.New -/
def new.an : An := { wraps := [], loops := [], joins := [], ranges := [] }
def new.vc (room : Int) (w : World) (R : Ending → World → Prop) : Prop :=
  ∀ (b : Nat) (w1 : World),
  New w (Obj.map #[] (0 : Nat)) b w1 →
  ∀ (b_1 : Nat) (w1_1 : World),
  New w1 (Obj.map #[] (0 : Nat)) b_1 w1_1 →
  ∀ (b_2 : Nat) (w1 : World),
  New w1_1
  (Obj.cells
  #[Value.int IntKind.i64 (min (max room (0 : Int)) (65536 : Int)), Value.slice none (0 : Nat) (0 : Nat), Value.map (some b), Value.map (some b_1), Value.slice none (0 : Nat) (0 : Nat),
  Value.int IntKind.i64 (0 : Int), Value.int IntKind.i64 (0 : Int), Value.bool false]
  (63 : Nat))
  b_2 w1 →
  R (Ending.returned (Value.pointer (some (Addr.mk b_2 (0 : Nat) none)))) w1
theorem new.eq (room : Int) (w : World) (R : Ending → World → Prop) : bodyV Go.Proofs.Try.prog new.an Go.Proofs.Try.f7 [.int .i64 room] w R = new.vc room w R := by kernel_rfl
theorem new.ok (room : Int) (w : World) (R : Ending → World → Prop) (h : new.vc room w R) : Calls Go.Proofs.Try.prog 7 #[.int .i64 room] w R :=
  calls_of_bodyV noNum (an := new.an) (args := [.int .i64 room]) Go.Proofs.Try.func7 (by kernel_rfl) ((new.eq room w R).mpr h)

/-- incunable/incunablelaw10.alive -/
def alive.an : An := { wraps := [], loops := [], joins := [], ranges := [] }
def alive.vc  (w : World) (R : Ending → World → Prop) : Prop :=
  CallV Go.Proofs.Try.prog (7 : Nat) [Value.int IntKind.i64 (40 : Int)] w fun (e : Ending) (w' : World) ↦
  ∃ (p : Option Addr),
  e = Ending.returned (Value.pointer p) ∧
  ∃ (b : Bool),
  Eqv Go.Proofs.Try.prog BinOp.eql (23 : Nat) (Operand.tmp (9 : Nat)) (Operand.const (Value.pointer none)) w' (Value.pointer p) (Value.pointer none) b ∧
  br b (R (Ending.returned (Value.bool false)) w')
  (CallV Go.Proofs.Try.prog (11 : Nat) [Value.pointer p, Value.string (ByteArray.mk #[(108 : UInt8), (111 : UInt8), (103 : UInt8)])] w' fun (e : Ending) (w' : World) ↦
  ∃ (p_1 : Option Addr),
  ∃ (i : Int),
  e = Ending.returned (Value.tuple #[Value.pointer p_1, Value.int IntKind.i64 i]) ∧
  br (!decide (i = (0 : Int))) (R (Ending.returned (Value.bool false)) w')
  (∃ (b : Bool),
  Eqv Go.Proofs.Try.prog BinOp.eql (33 : Nat) (Operand.tmp (19 : Nat)) (Operand.const (Value.pointer none)) w' (Value.pointer p_1) (Value.pointer none) b ∧
  br b (R (Ending.returned (Value.bool false)) w')
  (CallV Go.Proofs.Try.prog (25 : Nat) [Value.pointer p_1, Value.string (ByteArray.mk #[(97 : UInt8)])] w' fun (e : Ending) (w' : World) ↦
  ∃ (i : Int),
  ∃ (i_1 : Int),
  e = Ending.returned (Value.tuple #[Value.int IntKind.i64 i, Value.int IntKind.i64 i_1]) ∧
  CallV Go.Proofs.Try.prog (26 : Nat) [Value.pointer p_1] w' fun (e : Ending) (w' : World) ↦
  ∃ (i : Int),
  e = Ending.returned (Value.int IntKind.i64 i) ∧
  CallV Go.Proofs.Try.prog (25 : Nat) [Value.pointer p_1, Value.string (ByteArray.mk #[(98 : UInt8)])] w' fun (e : Ending) (w' : World) ↦
  ∃ (i_2 : Int),
  ∃ (i_3 : Int),
  e = Ending.returned (Value.tuple #[Value.int IntKind.i64 i_2, Value.int IntKind.i64 i_3]) ∧
  CallV Go.Proofs.Try.prog (17 : Nat) [Value.pointer p, Value.int IntKind.i64 (0 : Int), Value.slice none (0 : Nat) (0 : Nat)] w'
  fun (e : Ending) (w' : World) ↦
  ∃ (p : Option Addr),
  e = Ending.returned (Value.pointer p) ∧
  ∃ (b : Bool),
  Eqv Go.Proofs.Try.prog BinOp.eql (23 : Nat) (Operand.tmp (30 : Nat)) (Operand.const (Value.pointer none)) w' (Value.pointer p)
  (Value.pointer none) b ∧
  br b (R (Ending.returned (Value.bool false)) w')
  (CallV Go.Proofs.Try.prog (11 : Nat) [Value.pointer p, Value.string (ByteArray.mk #[(108 : UInt8), (111 : UInt8), (103 : UInt8)])] w'
  fun (e : Ending) (w' : World) ↦
  ∃ (p : Option Addr),
  ∃ (i_4 : Int),
  e = Ending.returned (Value.tuple #[Value.pointer p, Value.int IntKind.i64 i_4]) ∧
  br (decide (i = (0 : Int)))
  (br (decide (i_4 = (0 : Int)))
  (∃ (b : Bool),
  Eqv Go.Proofs.Try.prog BinOp.neq (33 : Nat) (Operand.tmp (44 : Nat)) (Operand.const (Value.pointer none)) w' (Value.pointer p)
  (Value.pointer none) b ∧
  br b
  (CallV Go.Proofs.Try.prog (21 : Nat) [Value.pointer p] w' fun (e : Ending) (w' : World) ↦
  ∃ (a : Option Addr),
  ∃ (l : Nat),
  ∃ (c : Nat),
  e = Ending.returned (Value.slice a l c) ∧
  ∀ (b : Nat) (w1 : World),
  New w' (Obj.cells #[Value.string (ByteArray.mk #[(97 : UInt8)])] (9 : Nat)) b w1 →
  CallV Go.Proofs.Try.prog (22 : Nat)
  [Value.slice a l c, Value.slice (some (Addr.mk b (0 : Nat) none)) (1 : Nat) (1 : Nat)] w1
  fun (e : Ending) (w' : World) ↦
  ∃ (b : Bool),
  e = Ending.returned (Value.bool b) ∧
  br b
  (CallV Go.Proofs.Try.prog (13 : Nat) [Value.pointer p_1] w' fun (e : Ending) (w' : World) ↦
  ∃ (i : Int),
  e = Ending.returned (Value.int IntKind.i64 i) ∧
  br (decide (i = (2 : Int)))
  (CallV Go.Proofs.Try.prog (12 : Nat) [Value.pointer p_1] w' fun (e : Ending) (w' : World) ↦
  ∃ (i : Int),
  e = Ending.returned (Value.int IntKind.i64 i) ∧
  R (Ending.returned (Value.bool (decide (i = (1 : Int))))) w')
  (R (Ending.returned (Value.bool false)) w'))
  (R (Ending.returned (Value.bool false)) w'))
  (R (Ending.returned (Value.bool false)) w'))
  (R (Ending.returned (Value.bool false)) w'))
  (R (Ending.returned (Value.bool false)) w')))))
theorem alive.eq  (w : World) (R : Ending → World → Prop) : bodyV Go.Proofs.Try.prog alive.an Go.Proofs.Try.f8 [] w R = alive.vc  w R := by kernel_rfl
theorem alive.ok  (w : World) (R : Ending → World → Prop) (h : alive.vc  w R) : Calls Go.Proofs.Try.prog 8 #[] w R :=
  calls_of_bodyV noNum (an := alive.an) (args := []) Go.Proofs.Try.func8 (by kernel_rfl) ((alive.eq  w R).mpr h)

/-- (*incunable/vault.Disk).Create -/
def create.an : An := { wraps := [], loops := [], joins := [], ranges := [] }
def create.vc (d : Option Addr) (name : ByteArray) (w : World) (R : Ending → World → Prop) : Prop :=
  ∀ (b : Nat) (w1 : World),
  New w (Obj.cells #[Value.string name] (9 : Nat)) b w1 →
  onP d fun (a : Addr) ↦
  ∃ (b_1 : Bool),
  Ld Go.Proofs.Try.prog (4 : Nat) w1 (Addr.add a (7 : Nat)) (Value.bool b_1) ∧
  br b_1 (R (Ending.returned (Value.int IntKind.i64 (93 : Int))) w1)
  (∃ (s : ByteArray),
  Ld Go.Proofs.Try.prog (9 : Nat) w1 (Addr.mk b (0 : Nat) none) (Value.string s) ∧
  CallV Go.Proofs.Try.prog (27 : Nat) [Value.string s] w1 fun (e : Ending) (w' : World) ↦
  ∃ (b_2 : Bool),
  e = Ending.returned (Value.bool b_2) ∧
  br (!b_2) (R (Ending.returned (Value.int IntKind.i64 (92 : Int))) w')
  (onP d fun (a : Addr) ↦
  ∃ (a_1 : Option Addr),
  ∃ (l : Nat),
  ∃ (c : Nat),
  Ld Go.Proofs.Try.prog (60 : Nat) w' (Addr.add a (1 : Nat)) (Value.slice a_1 l c) ∧
  ∀ (b_3 : Nat) (w1 : World),
  New w' (Obj.cells #[Value.int IntKind.i64 (0 : Int)] (3 : Nat)) b_3 w1 →
  ∃ (w1_1 : World),
  St Go.Proofs.Try.prog (3 : Nat) w1 (Addr.mk b_3 (0 : Nat) none) (Value.int IntKind.i64 (↑l : Int)) w1_1 ∧
  onP d fun (a : Addr) ↦
  ∃ (a_2 : Option Addr),
  ∃ (l : Nat),
  ∃ (c : Nat),
  Ld Go.Proofs.Try.prog (60 : Nat) w1_1 (Addr.add a (1 : Nat)) (Value.slice a_2 l c) ∧
  ∀ (b_4 : Nat) (w1 : World),
  New w1_1 (Obj.map #[] (0 : Nat)) b_4 w1 →
  ∀ (b_5 : Nat) (w1_2 : World),
  New w1 (Obj.cells #[Value.slice none (0 : Nat) (0 : Nat), Value.slice none (0 : Nat) (0 : Nat), Value.map (some b_4)] (71 : Nat)) b_5 w1_2 →
  ∀ (b_6 : Nat) (w1 : World),
  New w1_2 (Obj.cells #[Value.pointer (some (Addr.mk b_5 (0 : Nat) none))] (67 : Nat)) b_6 w1 →
  ∃ (a : Option Addr),
  ∃ (n : Nat),
  ∃ (m : Nat),
  ∃ (w1_3 : World),
  App Go.Proofs.Try.prog #[(60 : Nat), (60 : Nat)] (60 : Nat) w1 (Value.slice a_2 l c)
  (Value.slice (some (Addr.mk b_6 (0 : Nat) none)) (1 : Nat) (1 : Nat)) (Value.slice a n m) w1_3 ∧
  onP d fun (a_3 : Addr) ↦
  ∃ (w1 : World),
  St Go.Proofs.Try.prog (60 : Nat) w1_3 (Addr.add a_3 (1 : Nat)) (Value.slice a n m) w1 ∧
  CallV Go.Proofs.Try.prog (28 : Nat)
  [Value.pointer d,
  Value.func (Fn.func (29 : Nat)) #[]
  #[Value.pointer (some (Addr.mk b_3 (0 : Nat) none)), Value.pointer (some (Addr.mk b (0 : Nat) none))]]
  w1 fun (e : Ending) (w' : World) ↦
  ∃ (i : Int), e = Ending.returned (Value.int IntKind.i64 i) ∧ R (Ending.returned (Value.int IntKind.i64 i)) w'))
theorem create.eq (d : Option Addr) (name : ByteArray) (w : World) (R : Ending → World → Prop) : bodyV Go.Proofs.Try.prog create.an Go.Proofs.Try.f9 [.pointer d, .string name] w R = create.vc d name w R := by kernel_rfl
theorem create.ok (d : Option Addr) (name : ByteArray) (w : World) (R : Ending → World → Prop) (h : create.vc d name w R) : Calls Go.Proofs.Try.prog 9 #[.pointer d, .string name] w R :=
  calls_of_bodyV noNum (an := create.an) (args := [.pointer d, .string name]) Go.Proofs.Try.func9 (by kernel_rfl) ((create.eq d name w R).mpr h)

/-- (*incunable/vault.Disk).Write -/
def write.an : An := { wraps := [], loops := [], joins := [], ranges := [] }
def write.vc (d : Option Addr) (name : ByteArray) (n : Int) (ba : Option Addr) (bn : Nat) (bc : Nat) (w : World) (R : Ending → World → Prop) : Prop :=
  CallV Go.Proofs.Try.prog (30 : Nat) [Value.pointer d, Value.string name] w fun (e : Ending) (w' : World) ↦
  ∃ (p : Option Addr),
  e = Ending.returned (Value.pointer p) ∧
  onP d fun (a : Addr) ↦
  ∃ (b : Bool),
  Ld Go.Proofs.Try.prog (4 : Nat) w' (Addr.add a (7 : Nat)) (Value.bool b) ∧
  br b (R (Ending.returned (Value.int IntKind.i64 (93 : Int))) w')
  (∃ (b : Bool),
  Eqv Go.Proofs.Try.prog BinOp.eql (67 : Nat) (Operand.tmp (20 : Nat)) (Operand.const (Value.pointer none)) w' (Value.pointer p) (Value.pointer none) b ∧
  br b (R (Ending.returned (Value.int IntKind.i64 (90 : Int))) w')
  (br (decide (n < (0 : Int))) (R (Ending.returned (Value.int IntKind.i64 (91 : Int))) w')
  (onP p fun (a : Addr) ↦
  ∃ (a_1 : Option Addr),
  ∃ (l : Nat),
  ∃ (c : Nat),
  Ld Go.Proofs.Try.prog (69 : Nat) w' a (Value.slice a_1 l c) ∧
  br (decide ((↑l : Int) < n)) (R (Ending.returned (Value.int IntKind.i64 (91 : Int))) w')
  (br (decide ((512 : Int) < (↑bn : Int))) (R (Ending.returned (Value.int IntKind.i64 (91 : Int))) w')
  (onP p fun (a : Addr) ↦
  ∃ (a_2 : Option Addr),
  ∃ (l : Nat),
  ∃ (c : Nat),
  Ld Go.Proofs.Try.prog (69 : Nat) (World.drew w') a (Value.slice a_2 l c) ∧
  br (decide (n = (↑l : Int)))
  (onP d fun (a : Addr) ↦
  ∃ (i : Int),
  Ld Go.Proofs.Try.prog (3 : Nat) (World.drew w') a (Value.int IntKind.i64 i) ∧
  CallV Go.Proofs.Try.prog (31 : Nat) [Value.pointer d] (World.drew w') fun (e : Ending) (w' : World) ↦
  ∃ (i_1 : Int),
  e = Ending.returned (Value.int IntKind.i64 i_1) ∧
  Ld Go.Proofs.Try.prog (3 : Nat) w' a (Value.int IntKind.i64 i) ∧
  br (decide (i ≤ i_1)) (R (Ending.returned (Value.int IntKind.i64 (94 : Int))) w')
  (CallV Go.Proofs.Try.prog (32 : Nat) [Value.pointer d] w' fun (e : Ending) (w' : World) ↦
  ∃ (b : Bool),
  e = Ending.returned (Value.bool b) ∧
  br b (R (Ending.returned (Value.int IntKind.i64 (95 : Int))) w')
  (∀ (b : Nat) (w1 : World),
  New w' (Obj.cells (List.toArray (zl Go.Proofs.Try.prog (76 : Nat))) (76 : Nat)) b w1 →
  ∃ (n_1 : Int),
  ∃ (w1_1 : World),
  Cpy Go.Proofs.Try.prog #[(28 : Nat), (28 : Nat)] (3 : Nat) w1
  (Value.slice (some (Addr.mk b (0 : Nat) none)) (512 : Nat) (512 : Nat)) (Value.slice ba bn bc)
  (Value.int IntKind.i64 n_1) w1_1 ∧
  onP p fun (a : Addr) ↦
  ∃ (a_3 : Option Addr),
  ∃ (l : Nat),
  ∃ (c : Nat),
  Ld Go.Proofs.Try.prog (69 : Nat) w1_1 a (Value.slice a_3 l c) ∧
  br (decide (n = (↑l : Int)))
  (onP p fun (a : Addr) ↦
  ∃ (a_4 : Option Addr),
  ∃ (l : Nat),
  ∃ (c : Nat),
  Ld Go.Proofs.Try.prog (69 : Nat) (World.drew w1_1) a (Value.slice a_4 l c) ∧
  ∃ (cs : List Value),
  Ld Go.Proofs.Try.prog (76 : Nat) (World.drew w1_1) (Addr.mk b (0 : Nat) none)
  (Value.agg (List.toArray cs)) ∧
  ∃ (e : TypeId),
  ∃ (l_1 : List Value),
  BuildS Go.Proofs.Try.prog (69 : Nat) (1 : Nat) [((0 : Nat), Value.agg (List.toArray cs))] e
  l_1 ∧
  ∀ (b_1 : Nat) (w1 : World),
  New (World.drew w1_1) (Obj.cells (List.toArray l_1) e) b_1 w1 →
  Ld Go.Proofs.Try.prog (69 : Nat) w1 a (Value.slice a_4 l c) ∧
  ∃ (a : Option Addr),
  ∃ (n_2 : Nat),
  ∃ (m : Nat),
  ∃ (w1_2 : World),
  App Go.Proofs.Try.prog #[(69 : Nat), (69 : Nat)] (69 : Nat) w1
  (Value.slice a_4 l c)
  (Value.slice (some (Addr.mk b_1 (0 : Nat) none)) (1 : Nat)
  (1 : Nat))
  (Value.slice a n_2 m) w1_2 ∧
  onP p fun (a_6 : Addr) ↦
  ∃ (w1 : World),
  St Go.Proofs.Try.prog (69 : Nat) w1_2 a_6 (Value.slice a n_2 m) w1 ∧
  onP p fun (a : Addr) ↦
  ∃ (a_7 : Option Addr),
  ∃ (l : Nat),
  ∃ (c : Nat),
  Ld Go.Proofs.Try.prog (69 : Nat) (World.drew w1) a
  (Value.slice a_7 l c) ∧
  onP p fun (a : Addr) ↦
  ∃ (m : Option Nat),
  Ld Go.Proofs.Try.prog (68 : Nat) (World.drew w1)
  (Addr.add a (2 : Nat)) (Value.map m) ∧
  ∃ (cs : List Value),
  Ld Go.Proofs.Try.prog (76 : Nat) (World.drew w1)
  (Addr.mk b (0 : Nat) none)
  (Value.agg (List.toArray cs)) ∧
  onP a_7 fun (a : Addr) ↦
  ((0 : Int) ≤ n ∧ n < (↑l : Int)) ∧
  ∃ (w1_3 : World),
  St Go.Proofs.Try.prog (76 : Nat)
  (World.drew w1)
  (Addr.add a
  (Int.toNat n * (512 : Nat)))
  (Value.agg (List.toArray cs))
  w1_3 ∧
  ∃ (v : Value),
  ∃ (i : Int),
  ∃ (w1 : World),
  MEn Go.Proofs.Try.prog (68 : Nat)
  w1_3 (Value.map m)
  (Value.int IntKind.i64 n)
  (Value.tuple
  #[v,
  Value.int IntKind.i64
  i])
  w1 ∧
  ∃ (w1_4 : World),
  ESt Go.Proofs.Try.prog
  (68 : Nat) w1
  (Value.map m)
  (Value.int IntKind.i64
  i)
  (Value.bool true)
  w1_4 ∧
  CallV Go.Proofs.Try.prog
  (33 : Nat)
  [Value.pointer d] w1_4
  fun (e : Ending)
  (w' : World) ↦
  ∃ (i : Int),
  e =
  Ending.returned
  (Value.int
  IntKind.i64
  i) ∧
  R
  (Ending.returned
  (Value.int
  IntKind.i64
  i))
  w')
  (onP p fun (a : Addr) ↦
  ∃ (a_4 : Option Addr),
  ∃ (l : Nat),
  ∃ (c : Nat),
  Ld Go.Proofs.Try.prog (69 : Nat) (World.drew w1_1) a (Value.slice a_4 l c) ∧
  onP p fun (a : Addr) ↦
  ∃ (m : Option Nat),
  Ld Go.Proofs.Try.prog (68 : Nat) (World.drew w1_1) (Addr.add a (2 : Nat)) (Value.map m) ∧
  ∃ (cs : List Value),
  Ld Go.Proofs.Try.prog (76 : Nat) (World.drew w1_1) (Addr.mk b (0 : Nat) none)
  (Value.agg (List.toArray cs)) ∧
  onP a_4 fun (a : Addr) ↦
  ((0 : Int) ≤ n ∧ n < (↑l : Int)) ∧
  ∃ (w1 : World),
  St Go.Proofs.Try.prog (76 : Nat) (World.drew w1_1)
  (Addr.add a (Int.toNat n * (512 : Nat))) (Value.agg (List.toArray cs)) w1 ∧
  ∃ (v : Value),
  ∃ (i : Int),
  ∃ (w1_2 : World),
  MEn Go.Proofs.Try.prog (68 : Nat) w1 (Value.map m)
  (Value.int IntKind.i64 n)
  (Value.tuple #[v, Value.int IntKind.i64 i]) w1_2 ∧
  ∃ (w1 : World),
  ESt Go.Proofs.Try.prog (68 : Nat) w1_2 (Value.map m)
  (Value.int IntKind.i64 i) (Value.bool true) w1 ∧
  CallV Go.Proofs.Try.prog (33 : Nat) [Value.pointer d] w1
  fun (e : Ending) (w' : World) ↦
  ∃ (i : Int),
  e = Ending.returned (Value.int IntKind.i64 i) ∧
  R (Ending.returned (Value.int IntKind.i64 i)) w'))))
  (CallV Go.Proofs.Try.prog (32 : Nat) [Value.pointer d] (World.drew w') fun (e : Ending) (w' : World) ↦
  ∃ (b : Bool),
  e = Ending.returned (Value.bool b) ∧
  br b (R (Ending.returned (Value.int IntKind.i64 (95 : Int))) w')
  (∀ (b : Nat) (w1 : World),
  New w' (Obj.cells (List.toArray (zl Go.Proofs.Try.prog (76 : Nat))) (76 : Nat)) b w1 →
  ∃ (n_1 : Int),
  ∃ (w1_1 : World),
  Cpy Go.Proofs.Try.prog #[(28 : Nat), (28 : Nat)] (3 : Nat) w1 (Value.slice (some (Addr.mk b (0 : Nat) none)) (512 : Nat) (512 : Nat))
  (Value.slice ba bn bc) (Value.int IntKind.i64 n_1) w1_1 ∧
  onP p fun (a : Addr) ↦
  ∃ (a_3 : Option Addr),
  ∃ (l : Nat),
  ∃ (c : Nat),
  Ld Go.Proofs.Try.prog (69 : Nat) w1_1 a (Value.slice a_3 l c) ∧
  br (decide (n = (↑l : Int)))
  (onP p fun (a : Addr) ↦
  ∃ (a_4 : Option Addr),
  ∃ (l : Nat),
  ∃ (c : Nat),
  Ld Go.Proofs.Try.prog (69 : Nat) (World.drew w1_1) a (Value.slice a_4 l c) ∧
  ∃ (cs : List Value),
  Ld Go.Proofs.Try.prog (76 : Nat) (World.drew w1_1) (Addr.mk b (0 : Nat) none) (Value.agg (List.toArray cs)) ∧
  ∃ (e : TypeId),
  ∃ (l_1 : List Value),
  BuildS Go.Proofs.Try.prog (69 : Nat) (1 : Nat) [((0 : Nat), Value.agg (List.toArray cs))] e l_1 ∧
  ∀ (b_1 : Nat) (w1 : World),
  New (World.drew w1_1) (Obj.cells (List.toArray l_1) e) b_1 w1 →
  Ld Go.Proofs.Try.prog (69 : Nat) w1 a (Value.slice a_4 l c) ∧
  ∃ (a : Option Addr),
  ∃ (n_2 : Nat),
  ∃ (m : Nat),
  ∃ (w1_2 : World),
  App Go.Proofs.Try.prog #[(69 : Nat), (69 : Nat)] (69 : Nat) w1 (Value.slice a_4 l c)
  (Value.slice (some (Addr.mk b_1 (0 : Nat) none)) (1 : Nat) (1 : Nat))
  (Value.slice a n_2 m) w1_2 ∧
  onP p fun (a_6 : Addr) ↦
  ∃ (w1 : World),
  St Go.Proofs.Try.prog (69 : Nat) w1_2 a_6 (Value.slice a n_2 m) w1 ∧
  onP p fun (a : Addr) ↦
  ∃ (a_7 : Option Addr),
  ∃ (l : Nat),
  ∃ (c : Nat),
  Ld Go.Proofs.Try.prog (69 : Nat) (World.drew w1) a (Value.slice a_7 l c) ∧
  onP p fun (a : Addr) ↦
  ∃ (m : Option Nat),
  Ld Go.Proofs.Try.prog (68 : Nat) (World.drew w1)
  (Addr.add a (2 : Nat)) (Value.map m) ∧
  ∃ (cs : List Value),
  Ld Go.Proofs.Try.prog (76 : Nat) (World.drew w1)
  (Addr.mk b (0 : Nat) none) (Value.agg (List.toArray cs)) ∧
  onP a_7 fun (a : Addr) ↦
  ((0 : Int) ≤ n ∧ n < (↑l : Int)) ∧
  ∃ (w1_3 : World),
  St Go.Proofs.Try.prog (76 : Nat) (World.drew w1)
  (Addr.add a (Int.toNat n * (512 : Nat)))
  (Value.agg (List.toArray cs)) w1_3 ∧
  ∃ (v : Value),
  ∃ (i : Int),
  ∃ (w1 : World),
  MEn Go.Proofs.Try.prog (68 : Nat) w1_3
  (Value.map m) (Value.int IntKind.i64 n)
  (Value.tuple
  #[v, Value.int IntKind.i64 i])
  w1 ∧
  ∃ (w1_4 : World),
  ESt Go.Proofs.Try.prog (68 : Nat) w1
  (Value.map m)
  (Value.int IntKind.i64 i)
  (Value.bool true) w1_4 ∧
  CallV Go.Proofs.Try.prog (33 : Nat)
  [Value.pointer d] w1_4
  fun (e : Ending) (w' : World) ↦
  ∃ (i : Int),
  e =
  Ending.returned
  (Value.int IntKind.i64 i) ∧
  R
  (Ending.returned
  (Value.int IntKind.i64 i))
  w')
  (onP p fun (a : Addr) ↦
  ∃ (a_4 : Option Addr),
  ∃ (l : Nat),
  ∃ (c : Nat),
  Ld Go.Proofs.Try.prog (69 : Nat) (World.drew w1_1) a (Value.slice a_4 l c) ∧
  onP p fun (a : Addr) ↦
  ∃ (m : Option Nat),
  Ld Go.Proofs.Try.prog (68 : Nat) (World.drew w1_1) (Addr.add a (2 : Nat)) (Value.map m) ∧
  ∃ (cs : List Value),
  Ld Go.Proofs.Try.prog (76 : Nat) (World.drew w1_1) (Addr.mk b (0 : Nat) none)
  (Value.agg (List.toArray cs)) ∧
  onP a_4 fun (a : Addr) ↦
  ((0 : Int) ≤ n ∧ n < (↑l : Int)) ∧
  ∃ (w1 : World),
  St Go.Proofs.Try.prog (76 : Nat) (World.drew w1_1) (Addr.add a (Int.toNat n * (512 : Nat)))
  (Value.agg (List.toArray cs)) w1 ∧
  ∃ (v : Value),
  ∃ (i : Int),
  ∃ (w1_2 : World),
  MEn Go.Proofs.Try.prog (68 : Nat) w1 (Value.map m) (Value.int IntKind.i64 n)
  (Value.tuple #[v, Value.int IntKind.i64 i]) w1_2 ∧
  ∃ (w1 : World),
  ESt Go.Proofs.Try.prog (68 : Nat) w1_2 (Value.map m) (Value.int IntKind.i64 i)
  (Value.bool true) w1 ∧
  CallV Go.Proofs.Try.prog (33 : Nat) [Value.pointer d] w1
  fun (e : Ending) (w' : World) ↦
  ∃ (i : Int),
  e = Ending.returned (Value.int IntKind.i64 i) ∧
  R (Ending.returned (Value.int IntKind.i64 i)) w'))))))))
theorem write.eq (d : Option Addr) (name : ByteArray) (n : Int) (ba : Option Addr) (bn : Nat) (bc : Nat) (w : World) (R : Ending → World → Prop) : bodyV Go.Proofs.Try.prog write.an Go.Proofs.Try.f10 [.pointer d, .string name, .int .i64 n, .slice ba bn bc] w R = write.vc d name n ba bn bc w R := by kernel_rfl
theorem write.ok (d : Option Addr) (name : ByteArray) (n : Int) (ba : Option Addr) (bn : Nat) (bc : Nat) (w : World) (R : Ending → World → Prop) (h : write.vc d name n ba bn bc w R) : Calls Go.Proofs.Try.prog 10 #[.pointer d, .string name, .int .i64 n, .slice ba bn bc] w R :=
  calls_of_bodyV noNum (an := write.an) (args := [.pointer d, .string name, .int .i64 n, .slice ba bn bc]) Go.Proofs.Try.func10 (by kernel_rfl) ((write.eq d name n ba bn bc w R).mpr h)

/-- incunable/redo.Open -/
def open_.an : An := { wraps := [], loops := [], joins := [], ranges := [] }
def open_.vc (d : Option Addr) (name : ByteArray) (w : World) (R : Ending → World → Prop) : Prop :=
  ∀ (b : Nat) (w1 : World),
  New w
  (Obj.cells
  #[Value.pointer d, Value.string name, Value.int IntKind.u64 (0 : Int), Value.slice none (0 : Nat) (0 : Nat), Value.int IntKind.i64 (0 : Int), Value.int IntKind.i64 (0 : Int),
  Value.slice none (0 : Nat) (0 : Nat), Value.int IntKind.i64 (0 : Int)]
  (79 : Nat))
  b w1 →
  CallV Go.Proofs.Try.prog (34 : Nat) [Value.pointer d] w1 fun (e : Ending) (w' : World) ↦
  ∃ (b_1 : Bool),
  e = Ending.returned (Value.bool b_1) ∧
  br b_1 (R (Ending.returned (Value.tuple #[Value.pointer none, Value.int IntKind.i64 (93 : Int)])) w')
  (br (decide (name = ByteArray.mk #[])) (R (Ending.returned (Value.tuple #[Value.pointer none, Value.int IntKind.i64 (92 : Int)])) w')
  (br (decide ((56 : Int) < (↑(ByteArray.size name) : Int))) (R (Ending.returned (Value.tuple #[Value.pointer none, Value.int IntKind.i64 (92 : Int)])) w')
  (CallV Go.Proofs.Try.prog (35 : Nat) [Value.pointer d, Value.string name] w' fun (e : Ending) (w' : World) ↦
  ∃ (i : Int),
  e = Ending.returned (Value.int IntKind.i64 i) ∧
  br (decide ((2 : Int) ≤ i))
  (CallV Go.Proofs.Try.prog (36 : Nat) [Value.pointer (some (Addr.mk b (0 : Nat) none))] w' fun (e : Ending) (w' : World) ↦
  ∃ (p : Option Addr),
  ∃ (i : Int),
  e = Ending.returned (Value.tuple #[Value.pointer p, Value.int IntKind.i64 i]) ∧ R (Ending.returned (Value.tuple #[Value.pointer p, Value.int IntKind.i64 i])) w')
  (CallV Go.Proofs.Try.prog (37 : Nat) [Value.pointer (some (Addr.mk b (0 : Nat) none)), Value.slice none (0 : Nat) (0 : Nat)] w' fun (e : Ending) (w' : World) ↦
  ∃ (i : Int),
  e = Ending.returned (Value.int IntKind.i64 i) ∧
  br (!decide (i = (0 : Int))) (R (Ending.returned (Value.tuple #[Value.pointer none, Value.int IntKind.i64 i])) w')
  (R (Ending.returned (Value.tuple #[Value.pointer (some (Addr.mk b (0 : Nat) none)), Value.int IntKind.i64 (0 : Int)])) w')))))
theorem open_.eq (d : Option Addr) (name : ByteArray) (w : World) (R : Ending → World → Prop) : bodyV Go.Proofs.Try.prog open_.an Go.Proofs.Try.f11 [.pointer d, .string name] w R = open_.vc d name w R := by kernel_rfl
theorem open_.ok (d : Option Addr) (name : ByteArray) (w : World) (R : Ending → World → Prop) (h : open_.vc d name w R) : Calls Go.Proofs.Try.prog 11 #[.pointer d, .string name] w R :=
  calls_of_bodyV noNum (an := open_.an) (args := [.pointer d, .string name]) Go.Proofs.Try.func11 (by kernel_rfl) ((open_.eq d name w R).mpr h)

/-- (*incunable/redo.Log).Firm -/
def lfirm.an : An := { wraps := [], loops := [], joins := [], ranges := [] }
def lfirm.vc (l : Option Addr) (w : World) (R : Ending → World → Prop) : Prop :=
  onP l fun (a : Addr) ↦ ∃ (i : Int), Ld Go.Proofs.Try.prog (3 : Nat) w (Addr.add a (5 : Nat)) (Value.int IntKind.i64 i) ∧ R (Ending.returned (Value.int IntKind.i64 i)) w
theorem lfirm.eq (l : Option Addr) (w : World) (R : Ending → World → Prop) : bodyV Go.Proofs.Try.prog lfirm.an Go.Proofs.Try.f12 [.pointer l] w R = lfirm.vc l w R := by kernel_rfl
theorem lfirm.ok (l : Option Addr) (w : World) (R : Ending → World → Prop) (h : lfirm.vc l w R) : Calls Go.Proofs.Try.prog 12 #[.pointer l] w R :=
  calls_of_bodyV noNum (an := lfirm.an) (args := [.pointer l]) Go.Proofs.Try.func12 (by kernel_rfl) ((lfirm.eq l w R).mpr h)

/-- (*incunable/redo.Log).Len -/
def llen.an : An := { wraps := [], loops := [], joins := [], ranges := [] }
def llen.vc (l : Option Addr) (w : World) (R : Ending → World → Prop) : Prop :=
  onP l fun (a : Addr) ↦
  ∃ (a_1 : Option Addr), ∃ (l : Nat), ∃ (c : Nat), Ld Go.Proofs.Try.prog (49 : Nat) w (Addr.add a (6 : Nat)) (Value.slice a_1 l c) ∧ R (Ending.returned (Value.int IntKind.i64 (↑l : Int))) w
theorem llen.eq (l : Option Addr) (w : World) (R : Ending → World → Prop) : bodyV Go.Proofs.Try.prog llen.an Go.Proofs.Try.f13 [.pointer l] w R = llen.vc l w R := by kernel_rfl
theorem llen.ok (l : Option Addr) (w : World) (R : Ending → World → Prop) (h : llen.vc l w R) : Calls Go.Proofs.Try.prog 13 #[.pointer l] w R :=
  calls_of_bodyV noNum (an := llen.an) (args := [.pointer l]) Go.Proofs.Try.func13 (by kernel_rfl) ((llen.eq l w R).mpr h)

/-- (*incunable/redo.Log).Stuck -/
def lstuck.an : An := { wraps := [], loops := [], joins := [], ranges := [] }
def lstuck.vc (l : Option Addr) (w : World) (R : Ending → World → Prop) : Prop :=
  onP l fun (a : Addr) ↦ ∃ (i : Int), Ld Go.Proofs.Try.prog (26 : Nat) w (Addr.add a (7 : Nat)) (Value.int IntKind.i64 i) ∧ R (Ending.returned (Value.int IntKind.i64 i)) w
theorem lstuck.eq (l : Option Addr) (w : World) (R : Ending → World → Prop) : bodyV Go.Proofs.Try.prog lstuck.an Go.Proofs.Try.f14 [.pointer l] w R = lstuck.vc l w R := by kernel_rfl
theorem lstuck.ok (l : Option Addr) (w : World) (R : Ending → World → Prop) (h : lstuck.vc l w R) : Calls Go.Proofs.Try.prog 14 #[.pointer l] w R :=
  calls_of_bodyV noNum (an := lstuck.an) (args := [.pointer l]) Go.Proofs.Try.func14 (by kernel_rfl) ((lstuck.eq l w R).mpr h)

/-- (*incunable/vault.Disk).Arm -/
def arm.an : An := { wraps := [], loops := [], joins := [], ranges := [] }
def arm.vc (d : Option Addr) (k : Int) (w : World) (R : Ending → World → Prop) : Prop :=
  onP d fun (a : Addr) ↦ ∃ (w1 : World), St Go.Proofs.Try.prog (3 : Nat) w (Addr.add a (5 : Nat)) (Value.int IntKind.i64 (max k (0 : Int))) w1 ∧ R (Ending.returned (Value.tuple #[])) w1
theorem arm.eq (d : Option Addr) (k : Int) (w : World) (R : Ending → World → Prop) : bodyV Go.Proofs.Try.prog arm.an Go.Proofs.Try.f15 [.pointer d, .int .i64 k] w R = arm.vc d k w R := by kernel_rfl
theorem arm.ok (d : Option Addr) (k : Int) (w : World) (R : Ending → World → Prop) (h : arm.vc d k w R) : Calls Go.Proofs.Try.prog 15 #[.pointer d, .int .i64 k] w R :=
  calls_of_bodyV noNum (an := arm.an) (args := [.pointer d, .int .i64 k]) Go.Proofs.Try.func15 (by kernel_rfl) ((arm.eq d k w R).mpr h)

/-- (*incunable/vault.Disk).Deny -/
def deny.an : An := { wraps := [], loops := [], joins := [], ranges := [] }
def deny.vc (d : Option Addr) (k : Int) (w : World) (R : Ending → World → Prop) : Prop :=
  onP d fun (a : Addr) ↦ ∃ (w1 : World), St Go.Proofs.Try.prog (3 : Nat) w (Addr.add a (6 : Nat)) (Value.int IntKind.i64 (max k (0 : Int))) w1 ∧ R (Ending.returned (Value.tuple #[])) w1
theorem deny.eq (d : Option Addr) (k : Int) (w : World) (R : Ending → World → Prop) : bodyV Go.Proofs.Try.prog deny.an Go.Proofs.Try.f16 [.pointer d, .int .i64 k] w R = deny.vc d k w R := by kernel_rfl
theorem deny.ok (d : Option Addr) (k : Int) (w : World) (R : Ending → World → Prop) (h : deny.vc d k w R) : Calls Go.Proofs.Try.prog 16 #[.pointer d, .int .i64 k] w R :=
  calls_of_bodyV noNum (an := deny.an) (args := [.pointer d, .int .i64 k]) Go.Proofs.Try.func16 (by kernel_rfl) ((deny.eq d k w R).mpr h)

/-- (*incunable/vault.Disk).Crash -/
def crash.an : An := { wraps := [], loops := [(4, [(24, .inl .i64)]), (10, [(63, .inl .i64)])], joins := [], ranges := [] }
def crash.vc (d : Option Addr) (names : Int) (picksa : Option Addr) (picksn : Nat) (picksc : Nat) (w : World) (R : Ending → World → Prop) : Prop :=
  ∀ (b : Nat) (w1 : World),
  New w (Obj.cells #[Value.slice picksa picksn picksc] (29 : Nat)) b w1 →
  onP d fun (a : Addr) ↦
  ∃ (i : Int),
  Ld Go.Proofs.Try.prog (3 : Nat) w1 a (Value.int IntKind.i64 i) ∧
  CallV Go.Proofs.Try.prog (7 : Nat) [Value.int IntKind.i64 i] w1 fun (e : Ending) (w' : World) ↦
  ∃ (p : Option Addr),
  e = Ending.returned (Value.pointer p) ∧
  onP d fun (a : Addr) ↦
  ∃ (a_1 : Option Addr),
  ∃ (l : Nat),
  ∃ (c : Nat),
  Ld Go.Proofs.Try.prog (60 : Nat) w' (Addr.add a (1 : Nat)) (Value.slice a_1 l c) ∧
  LoopP
  (fun (s : Int) (w' : World) (next : Int → World → Prop) ↦
  br (decide (s < (↑l : Int)))
  (onP a_1 fun (a : Addr) ↦
  ((0 : Int) ≤ s ∧ s < (↑l : Int)) ∧
  ∃ (p_1 : Option Addr),
  Ld Go.Proofs.Try.prog (67 : Nat) w' (Addr.add a (Int.toNat s * (1 : Nat))) (Value.pointer p_1) ∧
  onP p fun (a : Addr) ↦
  ∃ (a_2 : Option Addr),
  ∃ (l : Nat),
  ∃ (c : Nat),
  Ld Go.Proofs.Try.prog (60 : Nat) (World.drew w') (Addr.add a (1 : Nat)) (Value.slice a_2 l c) ∧
  CallV Go.Proofs.Try.prog (39 : Nat) [Value.pointer p_1, Value.func (Fn.func (38 : Nat)) #[] #[Value.pointer (some (Addr.mk b (0 : Nat) none))]]
  (World.drew w') fun (e : Ending) (w' : World) ↦
  ∃ (p_2 : Option Addr),
  e = Ending.returned (Value.pointer p_2) ∧
  Ld Go.Proofs.Try.prog (60 : Nat) w' (Addr.add a (1 : Nat)) (Value.slice a_2 l c) ∧
  ∀ (b : Nat) (w1 : World),
  New w' (Obj.cells #[Value.pointer p_2] (67 : Nat)) b w1 →
  Ld Go.Proofs.Try.prog (60 : Nat) w1 (Addr.add a (1 : Nat)) (Value.slice a_2 l c) ∧
  ∃ (a : Option Addr),
  ∃ (n : Nat),
  ∃ (m : Nat),
  ∃ (w1_1 : World),
  App Go.Proofs.Try.prog #[(60 : Nat), (60 : Nat)] (60 : Nat) w1 (Value.slice a_2 l c)
  (Value.slice (some (Addr.mk b (0 : Nat) none)) (1 : Nat) (1 : Nat)) (Value.slice a n m) w1_1 ∧
  onP p fun (a_4 : Addr) ↦
  ∃ (w1 : World),
  St Go.Proofs.Try.prog (60 : Nat) w1_1 (Addr.add a_4 (1 : Nat)) (Value.slice a n m) w1 ∧
  inR IntKind.i64 (s + (1 : Int)) ∧ next (s + (1 : Int)) w1)
  (onP d fun (a : Addr) ↦
  ∃ (m : Option Nat),
  Ld Go.Proofs.Try.prog (59 : Nat) w' (Addr.add a (3 : Nat)) (Value.map m) ∧
  CallV Go.Proofs.Try.prog (40 : Nat) [Value.map m] w' fun (e : Ending) (w' : World) ↦
  ∃ (m : Option Nat),
  e = Ending.returned (Value.map m) ∧
  onP p fun (a : Addr) ↦
  ∃ (w1 : World),
  St Go.Proofs.Try.prog (59 : Nat) w' (Addr.add a (2 : Nat)) (Value.map m) w1 ∧
  onP d fun (a : Addr) ↦
  ∃ (a_2 : Option Addr),
  ∃ (l : Nat),
  ∃ (c : Nat),
  Ld Go.Proofs.Try.prog (61 : Nat) (World.drew w1) (Addr.add a (4 : Nat)) (Value.slice a_2 l c) ∧
  onP d fun (a : Addr) ↦
  ∃ (a_3 : Option Addr),
  ∃ (l : Nat),
  ∃ (c_1 : Nat),
  Ld Go.Proofs.Try.prog (61 : Nat) (World.drew w1) (Addr.add a (4 : Nat)) (Value.slice a_3 l c_1) ∧
  ((0 : Int) ≤ min (max names (0 : Int)) (↑l : Int) ∧ min (max names (0 : Int)) (↑l : Int) ≤ (↑c : Int)) ∧
  LoopP
  (fun (s : Int) (w' : World) (next : Int → World → Prop) ↦
  br (decide (s < (↑(Int.toNat (min (max names (0 : Int)) (↑l : Int))) : Int)))
  (onP a_2 fun (a : Addr) ↦
  ((0 : Int) ≤ s ∧ s < (↑(Int.toNat (min (max names (0 : Int)) (↑l : Int))) : Int)) ∧
  ∃ (v : Value),
  Ld Go.Proofs.Try.prog (85 : Nat) w' (Addr.add a (Int.toNat s * (1 : Nat))) v ∧
  onP p fun (a : Addr) ↦
  ∃ (m : Option Nat),
  Ld Go.Proofs.Try.prog (59 : Nat) w' (Addr.add a (2 : Nat)) (Value.map m) ∧
  CallX Go.Proofs.Try.prog v [Value.map m] w' fun (e : Ending) (w' : World) ↦
  e = Ending.returned (Value.tuple #[]) ∧ inR IntKind.i64 (s + (1 : Int)) ∧ next (s + (1 : Int)) w')
  (onP p fun (a : Addr) ↦
  ∃ (m : Option Nat),
  Ld Go.Proofs.Try.prog (59 : Nat) w' (Addr.add a (2 : Nat)) (Value.map m) ∧
  CallV Go.Proofs.Try.prog (40 : Nat) [Value.map m] w' fun (e : Ending) (w' : World) ↦
  ∃ (m : Option Nat),
  e = Ending.returned (Value.map m) ∧
  onP p fun (a : Addr) ↦
  ∃ (w1 : World),
  St Go.Proofs.Try.prog (59 : Nat) w' (Addr.add a (3 : Nat)) (Value.map m) w1 ∧
  R (Ending.returned (Value.pointer p)) w1))
  (0 : Int) (World.drew w1)))
  (0 : Int) w'
theorem crash.eq (d : Option Addr) (names : Int) (picksa : Option Addr) (picksn : Nat) (picksc : Nat) (w : World) (R : Ending → World → Prop) : bodyV Go.Proofs.Try.prog crash.an Go.Proofs.Try.f17 [.pointer d, .int .i64 names, .slice picksa picksn picksc] w R = crash.vc d names picksa picksn picksc w R := by kernel_rfl
theorem crash.ok (d : Option Addr) (names : Int) (picksa : Option Addr) (picksn : Nat) (picksc : Nat) (w : World) (R : Ending → World → Prop) (h : crash.vc d names picksa picksn picksc w R) : Calls Go.Proofs.Try.prog 17 #[.pointer d, .int .i64 names, .slice picksa picksn picksc] w R :=
  calls_of_bodyV noNum (an := crash.an) (args := [.pointer d, .int .i64 names, .slice picksa picksn picksc]) Go.Proofs.Try.func17 (by kernel_rfl) ((crash.eq d names picksa picksn picksc w R).mpr h)

/-- incunable/incunablelaw10.few -/
def few.an : An := { wraps := [], loops := [(3, [(3, .inl .i64), (10, .inl .i64)]), (7, [(3, .inl .i64), (22, .inl .i64)])], joins := [], ranges := [] }
def few.vc (scripta : Option Addr) (scriptn : Nat) (scriptc : Nat) (w : World) (R : Ending → World → Prop) : Prop :=
  LoopP
  (fun (s : Int × Int) (w' : World) (next : Int × Int → World → Prop) ↦
  br (decide (Prod.snd s < (↑scriptn : Int)))
  (onP scripta fun (a : Addr) ↦
  ((0 : Int) ≤ Prod.snd s ∧ Prod.snd s < (↑scriptn : Int)) ∧
  ∃ (i : Int),
  ∃ (s_1 : ByteArray),
  ∃ (a_1 : Option Addr),
  ∃ (l : Nat),
  ∃ (c : Nat),
  Ld Go.Proofs.Try.prog (51 : Nat) w' (Addr.add a (Int.toNat (Prod.snd s) * (3 : Nat))) (Value.agg #[Value.int IntKind.i64 i, Value.string s_1, Value.slice a_1 l c]) ∧
  ∀ (b : Nat) (w1 : World),
  New w' (Obj.cells #[Value.int IntKind.i64 (0 : Int), Value.string (ByteArray.mk #[]), Value.slice none (0 : Nat) (0 : Nat)] (51 : Nat)) b w1 →
  ∃ (w1_1 : World),
  St Go.Proofs.Try.prog (51 : Nat) w1 (Addr.mk b (0 : Nat) none) (Value.agg #[Value.int IntKind.i64 i, Value.string s_1, Value.slice a_1 l c]) w1_1 ∧
  ∃ (s_2 : ByteArray),
  Ld Go.Proofs.Try.prog (9 : Nat) w1_1 (Addr.mk b (1 : Nat) none) (Value.string s_2) ∧
  inR IntKind.i64 (Prod.fst s + (↑(ByteArray.size s_2) : Int)) ∧
  ∃ (a : Option Addr),
  ∃ (l : Nat),
  ∃ (c : Nat),
  Ld Go.Proofs.Try.prog (49 : Nat) w1_1 (Addr.mk b (2 : Nat) none) (Value.slice a l c) ∧
  LoopP
  (fun (s_3 : Int × Int) (w' : World) (next_1 : Int × Int → World → Prop) ↦
  br (decide (Prod.snd s_3 < (↑l : Int)))
  (onP a fun (a : Addr) ↦
  ((0 : Int) ≤ Prod.snd s_3 ∧ Prod.snd s_3 < (↑l : Int)) ∧
  ∃ (s : ByteArray),
  Ld Go.Proofs.Try.prog (9 : Nat) w' (Addr.add a (Int.toNat (Prod.snd s_3) * (1 : Nat))) (Value.string s) ∧
  inR IntKind.i64 ((↑(ByteArray.size s) : Int) + (17 : Int)) ∧
  inR IntKind.i64 (Prod.fst s_3 + ((↑(ByteArray.size s) : Int) + (17 : Int))) ∧
  inR IntKind.i64 (Prod.snd s_3 + (1 : Int)) ∧
  next_1 (Prod.fst s_3 + ((↑(ByteArray.size s) : Int) + (17 : Int)), Prod.snd s_3 + (1 : Int)) w')
  (inR IntKind.i64 (Prod.snd s + (1 : Int)) ∧ next (Prod.fst s_3, Prod.snd s + (1 : Int)) w'))
  (Prod.fst s + (↑(ByteArray.size s_2) : Int), (0 : Int)) w1_1)
  (br (decide ((↑scriptn : Int) ≤ (100 : Int))) (R (Ending.returned (Value.bool (decide (Prod.fst s ≤ (200000 : Int))))) w') (R (Ending.returned (Value.bool false)) w')))
  ((0 : Int), (0 : Int)) w
theorem few.eq (scripta : Option Addr) (scriptn : Nat) (scriptc : Nat) (w : World) (R : Ending → World → Prop) : bodyV Go.Proofs.Try.prog few.an Go.Proofs.Try.f18 [.slice scripta scriptn scriptc] w R = few.vc scripta scriptn scriptc w R := by kernel_rfl
theorem few.ok (scripta : Option Addr) (scriptn : Nat) (scriptc : Nat) (w : World) (R : Ending → World → Prop) (h : few.vc scripta scriptn scriptc w R) : Calls Go.Proofs.Try.prog 18 #[.slice scripta scriptn scriptc] w R :=
  calls_of_bodyV noNum (an := few.an) (args := [.slice scripta scriptn scriptc]) Go.Proofs.Try.func18 (by kernel_rfl) ((few.eq scripta scriptn scriptc w R).mpr h)

/-- incunable/incunablelaw10.opened -/
def opened.an : An := { wraps := [], loops := [], joins := [], ranges := [] }
def opened.vc  (w : World) (R : Ending → World → Prop) : Prop :=
  CallV Go.Proofs.Try.prog (7 : Nat) [Value.int IntKind.i64 (2000 : Int)] w fun (e : Ending) (w' : World) ↦
  ∃ (p : Option Addr),
  e = Ending.returned (Value.pointer p) ∧
  ∃ (b : Bool),
  Eqv Go.Proofs.Try.prog BinOp.eql (23 : Nat) (Operand.tmp (6 : Nat)) (Operand.const (Value.pointer none)) w' (Value.pointer p) (Value.pointer none) b ∧
  br b (R (Ending.returned (Value.tuple #[Value.pointer none, Value.pointer none])) w')
  (CallV Go.Proofs.Try.prog (11 : Nat) [Value.pointer p, Value.string (ByteArray.mk #[(108 : UInt8), (111 : UInt8), (103 : UInt8)])] w' fun (e : Ending) (w' : World) ↦
  ∃ (p_1 : Option Addr),
  ∃ (i : Int),
  e = Ending.returned (Value.tuple #[Value.pointer p_1, Value.int IntKind.i64 i]) ∧
  br (!decide (i = (0 : Int))) (R (Ending.returned (Value.tuple #[Value.pointer p, Value.pointer none])) w')
  (R (Ending.returned (Value.tuple #[Value.pointer p, Value.pointer p_1])) w'))
theorem opened.eq  (w : World) (R : Ending → World → Prop) : bodyV Go.Proofs.Try.prog opened.an Go.Proofs.Try.f19 [] w R = opened.vc  w R := by kernel_rfl
theorem opened.ok  (w : World) (R : Ending → World → Prop) (h : opened.vc  w R) : Calls Go.Proofs.Try.prog 19 #[] w R :=
  calls_of_bodyV noNum (an := opened.an) (args := []) Go.Proofs.Try.func19 (by kernel_rfl) ((opened.eq  w R).mpr h)

/-- incunable/incunablelaw10.does -/
def does.an : An := { wraps := [], loops := [], joins := [], ranges := [] }
def does.vc (l : Option Addr) (o_Kind : Int) (o_S : ByteArray) (o_Alla : Option Addr) (o_Alln : Nat) (o_Allc : Nat) (w : World) (R : Ending → World → Prop) : Prop :=
  ∀ (b : Nat) (w1 : World),
  New w (Obj.cells #[Value.int IntKind.i64 o_Kind, Value.string o_S, Value.slice o_Alla o_Alln o_Allc] (51 : Nat)) b w1 →
  ∃ (i : Int),
  Ld Go.Proofs.Try.prog (3 : Nat) w1 (Addr.mk b (0 : Nat) none) (Value.int IntKind.i64 i) ∧
  br (decide (i = (0 : Int)))
  (∃ (s : ByteArray),
  Ld Go.Proofs.Try.prog (9 : Nat) w1 (Addr.mk b (1 : Nat) none) (Value.string s) ∧
  CallV Go.Proofs.Try.prog (25 : Nat) [Value.pointer l, Value.string s] w1 fun (e : Ending) (w' : World) ↦
  ∃ (i : Int), ∃ (i_1 : Int), e = Ending.returned (Value.tuple #[Value.int IntKind.i64 i, Value.int IntKind.i64 i_1]) ∧ R (Ending.returned (Value.int IntKind.i64 i_1)) w')
  (br (decide (i = (1 : Int)))
  (CallV Go.Proofs.Try.prog (26 : Nat) [Value.pointer l] w1 fun (e : Ending) (w' : World) ↦
  ∃ (i : Int), e = Ending.returned (Value.int IntKind.i64 i) ∧ R (Ending.returned (Value.int IntKind.i64 i)) w')
  (br (decide (i = (2 : Int)))
  (∃ (a : Option Addr),
  ∃ (l_1 : Nat),
  ∃ (c : Nat),
  Ld Go.Proofs.Try.prog (49 : Nat) w1 (Addr.mk b (2 : Nat) none) (Value.slice a l_1 c) ∧
  CallV Go.Proofs.Try.prog (41 : Nat) [Value.pointer l, Value.slice a l_1 c] w1 fun (e : Ending) (w' : World) ↦
  ∃ (i : Int), e = Ending.returned (Value.int IntKind.i64 i) ∧ R (Ending.returned (Value.int IntKind.i64 i)) w')
  (R (Ending.returned (Value.int IntKind.i64 (0 : Int))) w1)))
theorem does.eq (l : Option Addr) (o_Kind : Int) (o_S : ByteArray) (o_Alla : Option Addr) (o_Alln : Nat) (o_Allc : Nat) (w : World) (R : Ending → World → Prop) : bodyV Go.Proofs.Try.prog does.an Go.Proofs.Try.f20 [.pointer l, .agg #[.int .i64 o_Kind, .string o_S, .slice o_Alla o_Alln o_Allc]] w R = does.vc l o_Kind o_S o_Alla o_Alln o_Allc w R := by kernel_rfl
theorem does.ok (l : Option Addr) (o_Kind : Int) (o_S : ByteArray) (o_Alla : Option Addr) (o_Alln : Nat) (o_Allc : Nat) (w : World) (R : Ending → World → Prop) (h : does.vc l o_Kind o_S o_Alla o_Alln o_Allc w R) : Calls Go.Proofs.Try.prog 20 #[.pointer l, .agg #[.int .i64 o_Kind, .string o_S, .slice o_Alla o_Alln o_Allc]] w R :=
  calls_of_bodyV noNum (an := does.an) (args := [.pointer l, .agg #[.int .i64 o_Kind, .string o_S, .slice o_Alla o_Alln o_Allc]]) Go.Proofs.Try.func20 (by kernel_rfl) ((does.eq l o_Kind o_S o_Alla o_Alln o_Allc w R).mpr h)

/-- (*incunable/redo.Log).All -/
def lall.an : An := { wraps := [], loops := [], joins := [], ranges := [] }
def lall.vc (l : Option Addr) (w : World) (R : Ending → World → Prop) : Prop :=
  onP l fun (a : Addr) ↦
  ∃ (a_1 : Option Addr),
  ∃ (l : Nat),
  ∃ (c : Nat),
  Ld Go.Proofs.Try.prog (49 : Nat) w (Addr.add a (6 : Nat)) (Value.slice a_1 l c) ∧
  CallV Go.Proofs.Try.prog (42 : Nat) [Value.slice a_1 l c] w fun (e : Ending) (w' : World) ↦
  ∃ (a : Option Addr), ∃ (l : Nat), ∃ (c : Nat), e = Ending.returned (Value.slice a l c) ∧ R (Ending.returned (Value.slice a l c)) w'
theorem lall.eq (l : Option Addr) (w : World) (R : Ending → World → Prop) : bodyV Go.Proofs.Try.prog lall.an Go.Proofs.Try.f21 [.pointer l] w R = lall.vc l w R := by kernel_rfl
theorem lall.ok (l : Option Addr) (w : World) (R : Ending → World → Prop) (h : lall.vc l w R) : Calls Go.Proofs.Try.prog 21 #[.pointer l] w R :=
  calls_of_bodyV noNum (an := lall.an) (args := [.pointer l]) Go.Proofs.Try.func21 (by kernel_rfl) ((lall.eq l w R).mpr h)

/-- incunable/incunableref10.Same -/
def same.an : An := { wraps := [], loops := [(4, [(5, .inl .i64)])], joins := [], ranges := [] }
def same.vc (aa : Option Addr) (an : Nat) (ac : Nat) (ba : Option Addr) (bn : Nat) (bc : Nat) (w : World) (R : Ending → World → Prop) : Prop :=
  br (!decide ((↑an : Int) = (↑bn : Int))) (R (Ending.returned (Value.bool false)) w)
  (LoopP
  (fun (s : Int) (w' : World) (next : Int → World → Prop) ↦
  br (decide (s < (↑an : Int)))
  (onP aa fun (a : Addr) ↦
  ((0 : Int) ≤ s ∧ s < (↑an : Int)) ∧
  ∃ (s_1 : ByteArray),
  Ld Go.Proofs.Try.prog (9 : Nat) (World.drew w') (Addr.add a (Int.toNat s * (1 : Nat))) (Value.string s_1) ∧
  onP ba fun (a : Addr) ↦
  ((0 : Int) ≤ s ∧ s < (↑bn : Int)) ∧
  ∃ (s_2 : ByteArray),
  Ld Go.Proofs.Try.prog (9 : Nat) (World.drew w') (Addr.add a (Int.toNat s * (1 : Nat))) (Value.string s_2) ∧
  br (!decide (s_1 = s_2)) (R (Ending.returned (Value.bool false)) (World.drew w')) (inR IntKind.i64 (s + (1 : Int)) ∧ next (s + (1 : Int)) (World.drew w')))
  (R (Ending.returned (Value.bool true)) w'))
  (0 : Int) w)
theorem same.eq (aa : Option Addr) (an : Nat) (ac : Nat) (ba : Option Addr) (bn : Nat) (bc : Nat) (w : World) (R : Ending → World → Prop) : bodyV Go.Proofs.Try.prog same.an Go.Proofs.Try.f22 [.slice aa an ac, .slice ba bn bc] w R = same.vc aa an ac ba bn bc w R := by kernel_rfl
theorem same.ok (aa : Option Addr) (an : Nat) (ac : Nat) (ba : Option Addr) (bn : Nat) (bc : Nat) (w : World) (R : Ending → World → Prop) (h : same.vc aa an ac ba bn bc w R) : Calls Go.Proofs.Try.prog 22 #[.slice aa an ac, .slice ba bn bc] w R :=
  calls_of_bodyV noNum (an := same.an) (args := [.slice aa an ac, .slice ba bn bc]) Go.Proofs.Try.func22 (by kernel_rfl) ((same.eq aa an ac ba bn bc w R).mpr h)

/-- incunable/incunableref10.Long -/
def rlong.an : An := { wraps := [], loops := [(2, [(3, .inl .i64)])], joins := [], ranges := [] }
def rlong.vc (la : Option Addr) (ln : Nat) (lc : Nat) (w : World) (R : Ending → World → Prop) : Prop :=
  LoopP
  (fun (s : Int) (w' : World) (next : Int → World → Prop) ↦
  br (decide (s < (↑ln : Int)))
  (onP la fun (a : Addr) ↦
  ((0 : Int) ≤ s ∧ s < (↑ln : Int)) ∧
  ∃ (s_1 : ByteArray),
  Ld Go.Proofs.Try.prog (9 : Nat) w' (Addr.add a (Int.toNat s * (1 : Nat))) (Value.string s_1) ∧
  br (decide ((65536 : Int) < (↑(ByteArray.size s_1) : Int))) (R (Ending.returned (Value.bool true)) w') (inR IntKind.i64 (s + (1 : Int)) ∧ next (s + (1 : Int)) w'))
  (R (Ending.returned (Value.bool false)) w'))
  (0 : Int) w
theorem rlong.eq (la : Option Addr) (ln : Nat) (lc : Nat) (w : World) (R : Ending → World → Prop) : bodyV Go.Proofs.Try.prog rlong.an Go.Proofs.Try.f23 [.slice la ln lc] w R = rlong.vc la ln lc w R := by kernel_rfl
theorem rlong.ok (la : Option Addr) (ln : Nat) (lc : Nat) (w : World) (R : Ending → World → Prop) (h : rlong.vc la ln lc w R) : Calls Go.Proofs.Try.prog 23 #[.slice la ln lc] w R :=
  calls_of_bodyV noNum (an := rlong.an) (args := [.slice la ln lc]) Go.Proofs.Try.func23 (by kernel_rfl) ((rlong.eq la ln lc w R).mpr h)

/-- incunable/incunableref10.Do -/
def rdo.an : An := { wraps := [], loops := [], joins := [], ranges := [] }
def rdo.vc (s_Nowa : Option Addr) (s_Nown : Nat) (s_Nowc : Nat) (s_Firma : Option Addr) (s_Firmn : Nat) (s_Firmc : Nat) (o_Kind : Int) (o_S : ByteArray) (o_Alla : Option Addr) (o_Alln : Nat) (o_Allc : Nat) (e : Int) (w : World) (R : Ending → World → Prop) : Prop :=
  ∀ (b : Nat) (w1 : World),
  New w (Obj.cells #[Value.slice s_Nowa s_Nown s_Nowc, Value.slice s_Firma s_Firmn s_Firmc] (56 : Nat)) b w1 →
  ∀ (b_1 : Nat) (w1_1 : World),
  New w1 (Obj.cells #[Value.int IntKind.i64 o_Kind, Value.string o_S, Value.slice o_Alla o_Alln o_Allc] (51 : Nat)) b_1 w1_1 →
  ∀ (b_2 : Nat) (w1 : World),
  New w1_1 (Obj.cells #[Value.slice none (0 : Nat) (0 : Nat), Value.slice none (0 : Nat) (0 : Nat)] (56 : Nat)) b_2 w1 →
  br (!decide (e = (0 : Int)))
  (∃ (a : Option Addr),
  ∃ (l : Nat),
  ∃ (c : Nat),
  ∃ (a_1 : Option Addr),
  ∃ (l_1 : Nat),
  ∃ (c_1 : Nat),
  Ld Go.Proofs.Try.prog (56 : Nat) w1 (Addr.mk b (0 : Nat) none) (Value.agg #[Value.slice a l c, Value.slice a_1 l_1 c_1]) ∧
  ∃ (w1_2 : World),
  St Go.Proofs.Try.prog (56 : Nat) w1 (Addr.mk b_2 (0 : Nat) none) (Value.agg #[Value.slice a l c, Value.slice a_1 l_1 c_1]) w1_2 ∧
  ∃ (a : Option Addr),
  ∃ (l : Nat),
  ∃ (c : Nat),
  ∃ (a_2 : Option Addr),
  ∃ (l_2 : Nat),
  ∃ (c_2 : Nat),
  Ld Go.Proofs.Try.prog (56 : Nat) w1_2 (Addr.mk b_2 (0 : Nat) none) (Value.agg #[Value.slice a l c, Value.slice a_2 l_2 c_2]) ∧
  R (Ending.returned (Value.agg #[Value.slice a l c, Value.slice a_2 l_2 c_2])) w1_2)
  (∃ (i : Int),
  Ld Go.Proofs.Try.prog (3 : Nat) w1 (Addr.mk b_1 (0 : Nat) none) (Value.int IntKind.i64 i) ∧
  br (decide (i = (0 : Int)))
  (∀ (b_3 : Nat) (w1_2 : World),
  New w1 (Obj.cells #[] (9 : Nat)) b_3 w1_2 →
  ∃ (a : Option Addr),
  ∃ (l : Nat),
  ∃ (c : Nat),
  Ld Go.Proofs.Try.prog (49 : Nat) w1_2 (Addr.mk b (0 : Nat) none) (Value.slice a l c) ∧
  ∃ (a_1 : Option Addr),
  ∃ (n : Nat),
  ∃ (m : Nat),
  ∃ (w1 : World),
  App Go.Proofs.Try.prog #[(49 : Nat), (49 : Nat)] (49 : Nat) w1_2 (Value.slice (some (Addr.mk b_3 (0 : Nat) none)) (0 : Nat) (0 : Nat)) (Value.slice a l c)
  (Value.slice a_1 n m) w1 ∧
  ∃ (s : ByteArray),
  Ld Go.Proofs.Try.prog (9 : Nat) w1 (Addr.mk b_1 (1 : Nat) none) (Value.string s) ∧
  ∀ (b_4 : Nat) (w1_3 : World),
  New w1 (Obj.cells #[Value.string s] (9 : Nat)) b_4 w1_3 →
  ∃ (a : Option Addr),
  ∃ (n_1 : Nat),
  ∃ (m_1 : Nat),
  ∃ (w1 : World),
  App Go.Proofs.Try.prog #[(49 : Nat), (49 : Nat)] (49 : Nat) w1_3 (Value.slice a_1 n m)
  (Value.slice (some (Addr.mk b_4 (0 : Nat) none)) (1 : Nat) (1 : Nat)) (Value.slice a n_1 m_1) w1 ∧
  ∃ (w1_4 : World),
  St Go.Proofs.Try.prog (49 : Nat) w1 (Addr.mk b (0 : Nat) none) (Value.slice a n_1 m_1) w1_4 ∧
  ∃ (i : Int),
  Ld Go.Proofs.Try.prog (3 : Nat) w1_4 (Addr.mk b_1 (0 : Nat) none) (Value.int IntKind.i64 i) ∧
  br (decide (i = (1 : Int)))
  (∃ (a : Option Addr),
  ∃ (l : Nat),
  ∃ (c : Nat),
  Ld Go.Proofs.Try.prog (49 : Nat) w1_4 (Addr.mk b (0 : Nat) none) (Value.slice a l c) ∧
  ∃ (w1 : World),
  St Go.Proofs.Try.prog (49 : Nat) w1_4 (Addr.mk b (1 : Nat) none) (Value.slice a l c) w1 ∧
  ∃ (i : Int),
  Ld Go.Proofs.Try.prog (3 : Nat) w1 (Addr.mk b_1 (0 : Nat) none) (Value.int IntKind.i64 i) ∧
  br (decide (i = (2 : Int)))
  (∃ (a : Option Addr),
  ∃ (l : Nat),
  ∃ (c : Nat),
  Ld Go.Proofs.Try.prog (49 : Nat) w1 (Addr.mk b_1 (2 : Nat) none) (Value.slice a l c) ∧
  ∃ (w1_5 : World),
  St Go.Proofs.Try.prog (49 : Nat) w1 (Addr.mk b (0 : Nat) none) (Value.slice a l c) w1_5 ∧
  ∃ (a : Option Addr),
  ∃ (l : Nat),
  ∃ (c : Nat),
  Ld Go.Proofs.Try.prog (49 : Nat) w1_5 (Addr.mk b_1 (2 : Nat) none) (Value.slice a l c) ∧
  ∃ (w1 : World),
  St Go.Proofs.Try.prog (49 : Nat) w1_5 (Addr.mk b (1 : Nat) none) (Value.slice a l c) w1 ∧
  ∃ (a : Option Addr),
  ∃ (l : Nat),
  ∃ (c : Nat),
  ∃ (a_2 : Option Addr),
  ∃ (l_1 : Nat),
  ∃ (c_1 : Nat),
  Ld Go.Proofs.Try.prog (56 : Nat) w1 (Addr.mk b (0 : Nat) none)
  (Value.agg #[Value.slice a l c, Value.slice a_2 l_1 c_1]) ∧
  ∃ (w1_6 : World),
  St Go.Proofs.Try.prog (56 : Nat) w1 (Addr.mk b_2 (0 : Nat) none)
  (Value.agg #[Value.slice a l c, Value.slice a_2 l_1 c_1]) w1_6 ∧
  ∃ (a : Option Addr),
  ∃ (l : Nat),
  ∃ (c : Nat),
  ∃ (a_3 : Option Addr),
  ∃ (l_2 : Nat),
  ∃ (c_2 : Nat),
  Ld Go.Proofs.Try.prog (56 : Nat) w1_6
  (Addr.mk b_2 (0 : Nat) none)
  (Value.agg
  #[Value.slice a l c, Value.slice a_3 l_2 c_2]) ∧
  R
  (Ending.returned
  (Value.agg
  #[Value.slice a l c, Value.slice a_3 l_2 c_2]))
  w1_6)
  (∃ (a : Option Addr),
  ∃ (l : Nat),
  ∃ (c : Nat),
  ∃ (a_2 : Option Addr),
  ∃ (l_1 : Nat),
  ∃ (c_1 : Nat),
  Ld Go.Proofs.Try.prog (56 : Nat) w1 (Addr.mk b (0 : Nat) none)
  (Value.agg #[Value.slice a l c, Value.slice a_2 l_1 c_1]) ∧
  ∃ (w1_5 : World),
  St Go.Proofs.Try.prog (56 : Nat) w1 (Addr.mk b_2 (0 : Nat) none)
  (Value.agg #[Value.slice a l c, Value.slice a_2 l_1 c_1]) w1_5 ∧
  ∃ (a : Option Addr),
  ∃ (l : Nat),
  ∃ (c : Nat),
  ∃ (a_3 : Option Addr),
  ∃ (l_2 : Nat),
  ∃ (c_2 : Nat),
  Ld Go.Proofs.Try.prog (56 : Nat) w1_5 (Addr.mk b_2 (0 : Nat) none)
  (Value.agg #[Value.slice a l c, Value.slice a_3 l_2 c_2]) ∧
  R (Ending.returned (Value.agg #[Value.slice a l c, Value.slice a_3 l_2 c_2]))
  w1_5))
  (∃ (i : Int),
  Ld Go.Proofs.Try.prog (3 : Nat) w1_4 (Addr.mk b_1 (0 : Nat) none) (Value.int IntKind.i64 i) ∧
  br (decide (i = (2 : Int)))
  (∃ (a : Option Addr),
  ∃ (l : Nat),
  ∃ (c : Nat),
  Ld Go.Proofs.Try.prog (49 : Nat) w1_4 (Addr.mk b_1 (2 : Nat) none) (Value.slice a l c) ∧
  ∃ (w1 : World),
  St Go.Proofs.Try.prog (49 : Nat) w1_4 (Addr.mk b (0 : Nat) none) (Value.slice a l c) w1 ∧
  ∃ (a : Option Addr),
  ∃ (l : Nat),
  ∃ (c : Nat),
  Ld Go.Proofs.Try.prog (49 : Nat) w1 (Addr.mk b_1 (2 : Nat) none) (Value.slice a l c) ∧
  ∃ (w1_5 : World),
  St Go.Proofs.Try.prog (49 : Nat) w1 (Addr.mk b (1 : Nat) none) (Value.slice a l c) w1_5 ∧
  ∃ (a : Option Addr),
  ∃ (l : Nat),
  ∃ (c : Nat),
  ∃ (a_2 : Option Addr),
  ∃ (l_1 : Nat),
  ∃ (c_1 : Nat),
  Ld Go.Proofs.Try.prog (56 : Nat) w1_5 (Addr.mk b (0 : Nat) none)
  (Value.agg #[Value.slice a l c, Value.slice a_2 l_1 c_1]) ∧
  ∃ (w1 : World),
  St Go.Proofs.Try.prog (56 : Nat) w1_5 (Addr.mk b_2 (0 : Nat) none)
  (Value.agg #[Value.slice a l c, Value.slice a_2 l_1 c_1]) w1 ∧
  ∃ (a : Option Addr),
  ∃ (l : Nat),
  ∃ (c : Nat),
  ∃ (a_3 : Option Addr),
  ∃ (l_2 : Nat),
  ∃ (c_2 : Nat),
  Ld Go.Proofs.Try.prog (56 : Nat) w1 (Addr.mk b_2 (0 : Nat) none)
  (Value.agg #[Value.slice a l c, Value.slice a_3 l_2 c_2]) ∧
  R
  (Ending.returned
  (Value.agg #[Value.slice a l c, Value.slice a_3 l_2 c_2]))
  w1)
  (∃ (a : Option Addr),
  ∃ (l : Nat),
  ∃ (c : Nat),
  ∃ (a_2 : Option Addr),
  ∃ (l_1 : Nat),
  ∃ (c_1 : Nat),
  Ld Go.Proofs.Try.prog (56 : Nat) w1_4 (Addr.mk b (0 : Nat) none)
  (Value.agg #[Value.slice a l c, Value.slice a_2 l_1 c_1]) ∧
  ∃ (w1 : World),
  St Go.Proofs.Try.prog (56 : Nat) w1_4 (Addr.mk b_2 (0 : Nat) none)
  (Value.agg #[Value.slice a l c, Value.slice a_2 l_1 c_1]) w1 ∧
  ∃ (a : Option Addr),
  ∃ (l : Nat),
  ∃ (c : Nat),
  ∃ (a_3 : Option Addr),
  ∃ (l_2 : Nat),
  ∃ (c_2 : Nat),
  Ld Go.Proofs.Try.prog (56 : Nat) w1 (Addr.mk b_2 (0 : Nat) none)
  (Value.agg #[Value.slice a l c, Value.slice a_3 l_2 c_2]) ∧
  R (Ending.returned (Value.agg #[Value.slice a l c, Value.slice a_3 l_2 c_2])) w1)))
  (∃ (i : Int),
  Ld Go.Proofs.Try.prog (3 : Nat) w1 (Addr.mk b_1 (0 : Nat) none) (Value.int IntKind.i64 i) ∧
  br (decide (i = (1 : Int)))
  (∃ (a : Option Addr),
  ∃ (l : Nat),
  ∃ (c : Nat),
  Ld Go.Proofs.Try.prog (49 : Nat) w1 (Addr.mk b (0 : Nat) none) (Value.slice a l c) ∧
  ∃ (w1_2 : World),
  St Go.Proofs.Try.prog (49 : Nat) w1 (Addr.mk b (1 : Nat) none) (Value.slice a l c) w1_2 ∧
  ∃ (i : Int),
  Ld Go.Proofs.Try.prog (3 : Nat) w1_2 (Addr.mk b_1 (0 : Nat) none) (Value.int IntKind.i64 i) ∧
  br (decide (i = (2 : Int)))
  (∃ (a : Option Addr),
  ∃ (l : Nat),
  ∃ (c : Nat),
  Ld Go.Proofs.Try.prog (49 : Nat) w1_2 (Addr.mk b_1 (2 : Nat) none) (Value.slice a l c) ∧
  ∃ (w1 : World),
  St Go.Proofs.Try.prog (49 : Nat) w1_2 (Addr.mk b (0 : Nat) none) (Value.slice a l c) w1 ∧
  ∃ (a : Option Addr),
  ∃ (l : Nat),
  ∃ (c : Nat),
  Ld Go.Proofs.Try.prog (49 : Nat) w1 (Addr.mk b_1 (2 : Nat) none) (Value.slice a l c) ∧
  ∃ (w1_3 : World),
  St Go.Proofs.Try.prog (49 : Nat) w1 (Addr.mk b (1 : Nat) none) (Value.slice a l c) w1_3 ∧
  ∃ (a : Option Addr),
  ∃ (l : Nat),
  ∃ (c : Nat),
  ∃ (a_1 : Option Addr),
  ∃ (l_1 : Nat),
  ∃ (c_1 : Nat),
  Ld Go.Proofs.Try.prog (56 : Nat) w1_3 (Addr.mk b (0 : Nat) none)
  (Value.agg #[Value.slice a l c, Value.slice a_1 l_1 c_1]) ∧
  ∃ (w1 : World),
  St Go.Proofs.Try.prog (56 : Nat) w1_3 (Addr.mk b_2 (0 : Nat) none)
  (Value.agg #[Value.slice a l c, Value.slice a_1 l_1 c_1]) w1 ∧
  ∃ (a : Option Addr),
  ∃ (l : Nat),
  ∃ (c : Nat),
  ∃ (a_2 : Option Addr),
  ∃ (l_2 : Nat),
  ∃ (c_2 : Nat),
  Ld Go.Proofs.Try.prog (56 : Nat) w1 (Addr.mk b_2 (0 : Nat) none)
  (Value.agg #[Value.slice a l c, Value.slice a_2 l_2 c_2]) ∧
  R (Ending.returned (Value.agg #[Value.slice a l c, Value.slice a_2 l_2 c_2])) w1)
  (∃ (a : Option Addr),
  ∃ (l : Nat),
  ∃ (c : Nat),
  ∃ (a_1 : Option Addr),
  ∃ (l_1 : Nat),
  ∃ (c_1 : Nat),
  Ld Go.Proofs.Try.prog (56 : Nat) w1_2 (Addr.mk b (0 : Nat) none) (Value.agg #[Value.slice a l c, Value.slice a_1 l_1 c_1]) ∧
  ∃ (w1 : World),
  St Go.Proofs.Try.prog (56 : Nat) w1_2 (Addr.mk b_2 (0 : Nat) none) (Value.agg #[Value.slice a l c, Value.slice a_1 l_1 c_1]) w1 ∧
  ∃ (a : Option Addr),
  ∃ (l : Nat),
  ∃ (c : Nat),
  ∃ (a_2 : Option Addr),
  ∃ (l_2 : Nat),
  ∃ (c_2 : Nat),
  Ld Go.Proofs.Try.prog (56 : Nat) w1 (Addr.mk b_2 (0 : Nat) none) (Value.agg #[Value.slice a l c, Value.slice a_2 l_2 c_2]) ∧
  R (Ending.returned (Value.agg #[Value.slice a l c, Value.slice a_2 l_2 c_2])) w1))
  (∃ (i : Int),
  Ld Go.Proofs.Try.prog (3 : Nat) w1 (Addr.mk b_1 (0 : Nat) none) (Value.int IntKind.i64 i) ∧
  br (decide (i = (2 : Int)))
  (∃ (a : Option Addr),
  ∃ (l : Nat),
  ∃ (c : Nat),
  Ld Go.Proofs.Try.prog (49 : Nat) w1 (Addr.mk b_1 (2 : Nat) none) (Value.slice a l c) ∧
  ∃ (w1_2 : World),
  St Go.Proofs.Try.prog (49 : Nat) w1 (Addr.mk b (0 : Nat) none) (Value.slice a l c) w1_2 ∧
  ∃ (a : Option Addr),
  ∃ (l : Nat),
  ∃ (c : Nat),
  Ld Go.Proofs.Try.prog (49 : Nat) w1_2 (Addr.mk b_1 (2 : Nat) none) (Value.slice a l c) ∧
  ∃ (w1 : World),
  St Go.Proofs.Try.prog (49 : Nat) w1_2 (Addr.mk b (1 : Nat) none) (Value.slice a l c) w1 ∧
  ∃ (a : Option Addr),
  ∃ (l : Nat),
  ∃ (c : Nat),
  ∃ (a_1 : Option Addr),
  ∃ (l_1 : Nat),
  ∃ (c_1 : Nat),
  Ld Go.Proofs.Try.prog (56 : Nat) w1 (Addr.mk b (0 : Nat) none) (Value.agg #[Value.slice a l c, Value.slice a_1 l_1 c_1]) ∧
  ∃ (w1_3 : World),
  St Go.Proofs.Try.prog (56 : Nat) w1 (Addr.mk b_2 (0 : Nat) none) (Value.agg #[Value.slice a l c, Value.slice a_1 l_1 c_1]) w1_3 ∧
  ∃ (a : Option Addr),
  ∃ (l : Nat),
  ∃ (c : Nat),
  ∃ (a_2 : Option Addr),
  ∃ (l_2 : Nat),
  ∃ (c_2 : Nat),
  Ld Go.Proofs.Try.prog (56 : Nat) w1_3 (Addr.mk b_2 (0 : Nat) none)
  (Value.agg #[Value.slice a l c, Value.slice a_2 l_2 c_2]) ∧
  R (Ending.returned (Value.agg #[Value.slice a l c, Value.slice a_2 l_2 c_2])) w1_3)
  (∃ (a : Option Addr),
  ∃ (l : Nat),
  ∃ (c : Nat),
  ∃ (a_1 : Option Addr),
  ∃ (l_1 : Nat),
  ∃ (c_1 : Nat),
  Ld Go.Proofs.Try.prog (56 : Nat) w1 (Addr.mk b (0 : Nat) none) (Value.agg #[Value.slice a l c, Value.slice a_1 l_1 c_1]) ∧
  ∃ (w1_2 : World),
  St Go.Proofs.Try.prog (56 : Nat) w1 (Addr.mk b_2 (0 : Nat) none) (Value.agg #[Value.slice a l c, Value.slice a_1 l_1 c_1]) w1_2 ∧
  ∃ (a : Option Addr),
  ∃ (l : Nat),
  ∃ (c : Nat),
  ∃ (a_2 : Option Addr),
  ∃ (l_2 : Nat),
  ∃ (c_2 : Nat),
  Ld Go.Proofs.Try.prog (56 : Nat) w1_2 (Addr.mk b_2 (0 : Nat) none) (Value.agg #[Value.slice a l c, Value.slice a_2 l_2 c_2]) ∧
  R (Ending.returned (Value.agg #[Value.slice a l c, Value.slice a_2 l_2 c_2])) w1_2))))
theorem rdo.eq (s_Nowa : Option Addr) (s_Nown : Nat) (s_Nowc : Nat) (s_Firma : Option Addr) (s_Firmn : Nat) (s_Firmc : Nat) (o_Kind : Int) (o_S : ByteArray) (o_Alla : Option Addr) (o_Alln : Nat) (o_Allc : Nat) (e : Int) (w : World) (R : Ending → World → Prop) : bodyV Go.Proofs.Try.prog rdo.an Go.Proofs.Try.f24 [.agg #[.slice s_Nowa s_Nown s_Nowc, .slice s_Firma s_Firmn s_Firmc], .agg #[.int .i64 o_Kind, .string o_S, .slice o_Alla o_Alln o_Allc], .int .i64 e] w R = rdo.vc s_Nowa s_Nown s_Nowc s_Firma s_Firmn s_Firmc o_Kind o_S o_Alla o_Alln o_Allc e w R := by kernel_rfl
theorem rdo.ok (s_Nowa : Option Addr) (s_Nown : Nat) (s_Nowc : Nat) (s_Firma : Option Addr) (s_Firmn : Nat) (s_Firmc : Nat) (o_Kind : Int) (o_S : ByteArray) (o_Alla : Option Addr) (o_Alln : Nat) (o_Allc : Nat) (e : Int) (w : World) (R : Ending → World → Prop) (h : rdo.vc s_Nowa s_Nown s_Nowc s_Firma s_Firmn s_Firmc o_Kind o_S o_Alla o_Alln o_Allc e w R) : Calls Go.Proofs.Try.prog 24 #[.agg #[.slice s_Nowa s_Nown s_Nowc, .slice s_Firma s_Firmn s_Firmc], .agg #[.int .i64 o_Kind, .string o_S, .slice o_Alla o_Alln o_Allc], .int .i64 e] w R :=
  calls_of_bodyV noNum (an := rdo.an) (args := [.agg #[.slice s_Nowa s_Nown s_Nowc, .slice s_Firma s_Firmn s_Firmc], .agg #[.int .i64 o_Kind, .string o_S, .slice o_Alla o_Alln o_Allc], .int .i64 e]) Go.Proofs.Try.func24 (by kernel_rfl) ((rdo.eq s_Nowa s_Nown s_Nowc s_Firma s_Firmn s_Firmc o_Kind o_S o_Alla o_Alln o_Allc e w R).mpr h)

/-- (*incunable/redo.Log).Append -/
def lappend.an : An := { wraps := [], loops := [], joins := [], ranges := [] }
def lappend.vc (l : Option Addr) (s : ByteArray) (w : World) (R : Ending → World → Prop) : Prop :=
  br (decide ((65536 : Int) < (↑(ByteArray.size s) : Int))) (R (Ending.returned (Value.tuple #[Value.int IntKind.i64 (0 : Int), Value.int IntKind.i64 (101 : Int)])) w)
  ((onP l fun (a : Addr) ↦
  ∃ (a_1 : Option Addr),
  ∃ (l_1 : Nat),
  ∃ (c : Nat),
  Ld Go.Proofs.Try.prog (28 : Nat) (World.drew w) (Addr.add a (3 : Nat)) (Value.slice a_1 l_1 c) ∧
  onP l fun (a : Addr) ↦
  ∃ (a_2 : Option Addr),
  ∃ (l_2 : Nat),
  ∃ (c_1 : Nat),
  Ld Go.Proofs.Try.prog (49 : Nat) (World.drew w) (Addr.add a (6 : Nat)) (Value.slice a_2 l_2 c_1) ∧
  CallV Go.Proofs.Try.prog (43 : Nat) [Value.slice a_1 l_1 c, Value.string s] (World.drew w) fun (e : Ending) (w' : World) ↦
  ∃ (a_3 : Option Addr),
  ∃ (l_3 : Nat),
  ∃ (c : Nat),
  e = Ending.returned (Value.slice a_3 l_3 c) ∧
  Ld Go.Proofs.Try.prog (49 : Nat) w' (Addr.add a (6 : Nat)) (Value.slice a_2 l_2 c_1) ∧
  ∀ (b : Nat) (w1 : World),
  New w' (Obj.cells #[Value.string s] (9 : Nat)) b w1 →
  Ld Go.Proofs.Try.prog (49 : Nat) w1 (Addr.add a (6 : Nat)) (Value.slice a_2 l_2 c_1) ∧
  ∃ (a : Option Addr),
  ∃ (n : Nat),
  ∃ (m : Nat),
  ∃ (w1_1 : World),
  App Go.Proofs.Try.prog #[(49 : Nat), (49 : Nat)] (49 : Nat) w1 (Value.slice a_2 l_2 c_1)
  (Value.slice (some (Addr.mk b (0 : Nat) none)) (1 : Nat) (1 : Nat)) (Value.slice a n m) w1_1 ∧
  onP l fun (a_5 : Addr) ↦
  ∃ (w1 : World),
  St Go.Proofs.Try.prog (28 : Nat) w1_1 (Addr.add a_5 (3 : Nat)) (Value.slice a_3 l_3 c) w1 ∧
  onP l fun (a_6 : Addr) ↦
  ∃ (w1_2 : World),
  St Go.Proofs.Try.prog (49 : Nat) w1 (Addr.add a_6 (6 : Nat)) (Value.slice a n m) w1_2 ∧
  onP l fun (a : Addr) ↦
  ∃ (a_7 : Option Addr),
  ∃ (l : Nat),
  ∃ (c : Nat),
  Ld Go.Proofs.Try.prog (49 : Nat) w1_2 (Addr.add a (6 : Nat)) (Value.slice a_7 l c) ∧
  R (Ending.returned (Value.tuple #[Value.int IntKind.i64 (↑l : Int), Value.int IntKind.i64 (0 : Int)])) w1_2) ∧
  onP l fun (a : Addr) ↦
  ∃ (a_1 : Option Addr),
  ∃ (l_1 : Nat),
  ∃ (c : Nat),
  Ld Go.Proofs.Try.prog (28 : Nat) (World.drew w) (Addr.add a (3 : Nat)) (Value.slice a_1 l_1 c) ∧
  onP l fun (a_2 : Addr) ↦
  ∃ (a_3 : Option Addr),
  ∃ (l_2 : Nat),
  ∃ (c_1 : Nat),
  Ld Go.Proofs.Try.prog (49 : Nat) (World.drew w) (Addr.add a_2 (6 : Nat)) (Value.slice a_3 l_2 c_1) ∧
  ∀ (b : Nat) (w1 : World),
  New (World.drew w) (Obj.cells #[Value.string s] (9 : Nat)) b w1 →
  Ld Go.Proofs.Try.prog (49 : Nat) w1 (Addr.add a_2 (6 : Nat)) (Value.slice a_3 l_2 c_1) ∧
  Ld Go.Proofs.Try.prog (28 : Nat) w1 (Addr.add a (3 : Nat)) (Value.slice a_1 l_1 c) ∧
  CallV Go.Proofs.Try.prog (43 : Nat) [Value.slice a_1 l_1 c, Value.string s] w1 fun (e : Ending) (w' : World) ↦
  ∃ (a : Option Addr),
  ∃ (l_3 : Nat),
  ∃ (c : Nat),
  e = Ending.returned (Value.slice a l_3 c) ∧
  Ld Go.Proofs.Try.prog (49 : Nat) w' (Addr.add a_2 (6 : Nat)) (Value.slice a_3 l_2 c_1) ∧
  ∃ (a_5 : Option Addr),
  ∃ (n : Nat),
  ∃ (m : Nat),
  ∃ (w1 : World),
  App Go.Proofs.Try.prog #[(49 : Nat), (49 : Nat)] (49 : Nat) w' (Value.slice a_3 l_2 c_1)
  (Value.slice (some (Addr.mk b (0 : Nat) none)) (1 : Nat) (1 : Nat)) (Value.slice a_5 n m) w1 ∧
  onP l fun (a_6 : Addr) ↦
  ∃ (w1_1 : World),
  St Go.Proofs.Try.prog (28 : Nat) w1 (Addr.add a_6 (3 : Nat)) (Value.slice a l_3 c) w1_1 ∧
  onP l fun (a : Addr) ↦
  ∃ (w1 : World),
  St Go.Proofs.Try.prog (49 : Nat) w1_1 (Addr.add a (6 : Nat)) (Value.slice a_5 n m) w1 ∧
  onP l fun (a : Addr) ↦
  ∃ (a_7 : Option Addr),
  ∃ (l : Nat),
  ∃ (c : Nat),
  Ld Go.Proofs.Try.prog (49 : Nat) w1 (Addr.add a (6 : Nat)) (Value.slice a_7 l c) ∧
  R (Ending.returned (Value.tuple #[Value.int IntKind.i64 (↑l : Int), Value.int IntKind.i64 (0 : Int)])) w1)
theorem lappend.eq (l : Option Addr) (s : ByteArray) (w : World) (R : Ending → World → Prop) : bodyV Go.Proofs.Try.prog lappend.an Go.Proofs.Try.f25 [.pointer l, .string s] w R = lappend.vc l s w R := by kernel_rfl
theorem lappend.ok (l : Option Addr) (s : ByteArray) (w : World) (R : Ending → World → Prop) (h : lappend.vc l s w R) : Calls Go.Proofs.Try.prog 25 #[.pointer l, .string s] w R :=
  calls_of_bodyV noNum (an := lappend.an) (args := [.pointer l, .string s]) Go.Proofs.Try.func25 (by kernel_rfl) ((lappend.eq l s w R).mpr h)

/-- (*incunable/redo.Log).Flush -/
def lflush.an : An := { wraps := [], loops := [], joins := [], ranges := [] }
def lflush.vc (l : Option Addr) (w : World) (R : Ending → World → Prop) : Prop :=
  onP l fun (a : Addr) ↦
  ∃ (i : Int),
  Ld Go.Proofs.Try.prog (26 : Nat) w (Addr.add a (7 : Nat)) (Value.int IntKind.i64 i) ∧
  br (!decide (i = (0 : Int)))
  (onP l fun (a : Addr) ↦ ∃ (i : Int), Ld Go.Proofs.Try.prog (26 : Nat) w (Addr.add a (7 : Nat)) (Value.int IntKind.i64 i) ∧ R (Ending.returned (Value.int IntKind.i64 i)) w)
  (onP l fun (a : Addr) ↦
  ∃ (s : ByteArray),
  Ld Go.Proofs.Try.prog (9 : Nat) (World.drew w) (Addr.add a (1 : Nat)) (Value.string s) ∧
  onP l fun (a : Addr) ↦
  ∃ (a_1 : Option Addr),
  ∃ (l_1 : Nat),
  ∃ (c : Nat),
  Ld Go.Proofs.Try.prog (28 : Nat) (World.drew w) (Addr.add a (3 : Nat)) (Value.slice a_1 l_1 c) ∧
  onP l fun (a : Addr) ↦
  ∃ (i : Int),
  Ld Go.Proofs.Try.prog (3 : Nat) (World.drew w) (Addr.add a (4 : Nat)) (Value.int IntKind.i64 i) ∧
  CallV Go.Proofs.Try.prog (44 : Nat) [Value.pointer l, Value.string s, Value.slice a_1 l_1 c, Value.int IntKind.i64 i] (World.drew w) fun (e : Ending) (w' : World) ↦
  ∃ (i : Int),
  e = Ending.returned (Value.int IntKind.i64 i) ∧
  br (decide (i = (0 : Int)))
  (onP l fun (a : Addr) ↦
  ∃ (s : ByteArray),
  Ld Go.Proofs.Try.prog (9 : Nat) (World.drew w') (Addr.add a (1 : Nat)) (Value.string s) ∧
  onP l fun (a : Addr) ↦
  ∃ (i : Int),
  Ld Go.Proofs.Try.prog (77 : Nat) (World.drew w') (Addr.add a (2 : Nat)) (Value.int IntKind.u64 i) ∧
  inR IntKind.u64 (i + (1 : Int)) ∧
  onP l fun (a : Addr) ↦
  ∃ (a_2 : Option Addr),
  ∃ (l_2 : Nat),
  ∃ (c : Nat),
  Ld Go.Proofs.Try.prog (28 : Nat) (World.drew w') (Addr.add a (3 : Nat)) (Value.slice a_2 l_2 c) ∧
  CallV Go.Proofs.Try.prog (45 : Nat)
  [Value.pointer l, Value.string s, Value.int IntKind.u64 (i + (1 : Int)), Value.int IntKind.i64 (↑l_2 : Int)] (World.drew w')
  fun (e : Ending) (w' : World) ↦
  ∃ (i : Int),
  e = Ending.returned (Value.int IntKind.i64 i) ∧
  br (!decide (i = (0 : Int)))
  (CallV Go.Proofs.Try.prog (46 : Nat) [Value.pointer l, Value.int IntKind.i64 i] w' fun (e : Ending) (w' : World) ↦
  ∃ (i : Int), e = Ending.returned (Value.int IntKind.i64 i) ∧ R (Ending.returned (Value.int IntKind.i64 i)) w')
  (onP l fun (a : Addr) ↦
  ∃ (i : Int),
  Ld Go.Proofs.Try.prog (77 : Nat) w' (Addr.add a (2 : Nat)) (Value.int IntKind.u64 i) ∧
  inR IntKind.u64 (i + (1 : Int)) ∧
  onP l fun (a : Addr) ↦
  ∃ (w1 : World),
  St Go.Proofs.Try.prog (77 : Nat) w' (Addr.add a (2 : Nat)) (Value.int IntKind.u64 (i + (1 : Int))) w1 ∧
  onP l fun (a : Addr) ↦
  ∃ (a_3 : Option Addr),
  ∃ (l_3 : Nat),
  ∃ (c : Nat),
  Ld Go.Proofs.Try.prog (28 : Nat) (World.drew w1) (Addr.add a (3 : Nat)) (Value.slice a_3 l_3 c) ∧
  onP l fun (a : Addr) ↦
  ∃ (a_4 : Option Addr),
  ∃ (l_4 : Nat),
  ∃ (c : Nat),
  Ld Go.Proofs.Try.prog (49 : Nat) (World.drew w1) (Addr.add a (6 : Nat)) (Value.slice a_4 l_4 c) ∧
  onP l fun (a : Addr) ↦
  ∃ (w1_1 : World),
  St Go.Proofs.Try.prog (3 : Nat) (World.drew w1) (Addr.add a (4 : Nat))
  (Value.int IntKind.i64 (↑l_3 : Int)) w1_1 ∧
  onP l fun (a : Addr) ↦
  ∃ (w1 : World),
  St Go.Proofs.Try.prog (3 : Nat) w1_1 (Addr.add a (5 : Nat))
  (Value.int IntKind.i64 (↑l_4 : Int)) w1 ∧
  R (Ending.returned (Value.int IntKind.i64 (0 : Int))) w1))
  (br (!decide (i = (0 : Int)))
  (CallV Go.Proofs.Try.prog (46 : Nat) [Value.pointer l, Value.int IntKind.i64 i] w' fun (e : Ending) (w' : World) ↦
  ∃ (i : Int), e = Ending.returned (Value.int IntKind.i64 i) ∧ R (Ending.returned (Value.int IntKind.i64 i)) w')
  (onP l fun (a : Addr) ↦
  ∃ (i : Int),
  Ld Go.Proofs.Try.prog (77 : Nat) w' (Addr.add a (2 : Nat)) (Value.int IntKind.u64 i) ∧
  inR IntKind.u64 (i + (1 : Int)) ∧
  onP l fun (a : Addr) ↦
  ∃ (w1 : World),
  St Go.Proofs.Try.prog (77 : Nat) w' (Addr.add a (2 : Nat)) (Value.int IntKind.u64 (i + (1 : Int))) w1 ∧
  onP l fun (a : Addr) ↦
  ∃ (a_2 : Option Addr),
  ∃ (l_2 : Nat),
  ∃ (c : Nat),
  Ld Go.Proofs.Try.prog (28 : Nat) (World.drew w1) (Addr.add a (3 : Nat)) (Value.slice a_2 l_2 c) ∧
  onP l fun (a : Addr) ↦
  ∃ (a_3 : Option Addr),
  ∃ (l_3 : Nat),
  ∃ (c : Nat),
  Ld Go.Proofs.Try.prog (49 : Nat) (World.drew w1) (Addr.add a (6 : Nat)) (Value.slice a_3 l_3 c) ∧
  onP l fun (a : Addr) ↦
  ∃ (w1_1 : World),
  St Go.Proofs.Try.prog (3 : Nat) (World.drew w1) (Addr.add a (4 : Nat)) (Value.int IntKind.i64 (↑l_2 : Int)) w1_1 ∧
  onP l fun (a : Addr) ↦
  ∃ (w1 : World),
  St Go.Proofs.Try.prog (3 : Nat) w1_1 (Addr.add a (5 : Nat)) (Value.int IntKind.i64 (↑l_3 : Int)) w1 ∧
  R (Ending.returned (Value.int IntKind.i64 (0 : Int))) w1)))
theorem lflush.eq (l : Option Addr) (w : World) (R : Ending → World → Prop) : bodyV Go.Proofs.Try.prog lflush.an Go.Proofs.Try.f26 [.pointer l] w R = lflush.vc l w R := by kernel_rfl
theorem lflush.ok (l : Option Addr) (w : World) (R : Ending → World → Prop) (h : lflush.vc l w R) : Calls Go.Proofs.Try.prog 26 #[.pointer l] w R :=
  calls_of_bodyV noNum (an := lflush.an) (args := [.pointer l]) Go.Proofs.Try.func26 (by kernel_rfl) ((lflush.eq l w R).mpr h)

/-- incunable/vault.right -/
def right.an : An := { wraps := [], loops := [], joins := [], ranges := [] }
def right.vc (name : ByteArray) (w : World) (R : Ending → World → Prop) : Prop :=
  br (!decide (name = ByteArray.mk #[])) (R (Ending.returned (Value.bool (decide ((↑(ByteArray.size name) : Int) ≤ (60 : Int))))) w) (R (Ending.returned (Value.bool false)) w)
theorem right.eq (name : ByteArray) (w : World) (R : Ending → World → Prop) : bodyV Go.Proofs.Try.prog right.an Go.Proofs.Try.f27 [.string name] w R = right.vc name w R := by kernel_rfl
theorem right.ok (name : ByteArray) (w : World) (R : Ending → World → Prop) (h : right.vc name w R) : Calls Go.Proofs.Try.prog 27 #[.string name] w R :=
  calls_of_bodyV noNum (an := right.an) (args := [.string name]) Go.Proofs.Try.func27 (by kernel_rfl) ((right.eq name w R).mpr h)

/-- (*incunable/vault.Disk).rename -/
def drenameC.an : An := { wraps := [], loops := [], joins := [], ranges := [] }
def drenameC.vc (d : Option Addr) (x : Option Addr) (y : Option Addr) (w : World) (R : Ending → World → Prop) : Prop :=
  onP d fun (a : Addr) ↦
  ∃ (m : Option Nat),
  Ld Go.Proofs.Try.prog (59 : Nat) w (Addr.add a (2 : Nat)) (Value.map m) ∧
  CallV Go.Proofs.Try.prog (29 : Nat) [Value.map m, Value.pointer x, Value.pointer y] w fun (e : Ending) (w' : World) ↦
  e = Ending.returned (Value.tuple #[]) ∧
  onP d fun (a : Addr) ↦
  ∃ (a_1 : Option Addr),
  ∃ (l : Nat),
  ∃ (c : Nat),
  Ld Go.Proofs.Try.prog (61 : Nat) w' (Addr.add a (4 : Nat)) (Value.slice a_1 l c) ∧
  ∀ (b : Nat) (w1 : World),
  New w' (Obj.cells #[Value.func (Fn.func (29 : Nat)) #[] #[Value.pointer x, Value.pointer y]] (85 : Nat)) b w1 →
  ∃ (a : Option Addr),
  ∃ (n : Nat),
  ∃ (m : Nat),
  ∃ (w1_1 : World),
  App Go.Proofs.Try.prog #[(61 : Nat), (61 : Nat)] (61 : Nat) w1 (Value.slice a_1 l c) (Value.slice (some (Addr.mk b (0 : Nat) none)) (1 : Nat) (1 : Nat))
  (Value.slice a n m) w1_1 ∧
  onP d fun (a_2 : Addr) ↦
  ∃ (w1 : World),
  St Go.Proofs.Try.prog (61 : Nat) w1_1 (Addr.add a_2 (4 : Nat)) (Value.slice a n m) w1 ∧
  CallV Go.Proofs.Try.prog (33 : Nat) [Value.pointer d] w1 fun (e : Ending) (w' : World) ↦
  ∃ (i : Int), e = Ending.returned (Value.int IntKind.i64 i) ∧ R (Ending.returned (Value.int IntKind.i64 i)) w'
theorem drenameC.eq (d : Option Addr) (x : Option Addr) (y : Option Addr) (w : World) (R : Ending → World → Prop) : bodyV Go.Proofs.Try.prog drenameC.an Go.Proofs.Try.f28 [.pointer d, (.func (.func 29) #[] #[.pointer x, .pointer y])] w R = drenameC.vc d x y w R := by kernel_rfl
theorem drenameC.ok (d : Option Addr) (x : Option Addr) (y : Option Addr) (w : World) (R : Ending → World → Prop) (h : drenameC.vc d x y w R) : Calls Go.Proofs.Try.prog 28 #[.pointer d, (.func (.func 29) #[] #[.pointer x, .pointer y])] w R :=
  calls_of_bodyV noNum (an := drenameC.an) (args := [.pointer d, (.func (.func 29) #[] #[.pointer x, .pointer y])]) Go.Proofs.Try.func28 (by kernel_rfl) ((drenameC.eq d x y w R).mpr h)

/-- (*incunable/vault.Disk).rename -/
def drenameR.an : An := { wraps := [], loops := [], joins := [], ranges := [] }
def drenameR.vc (d : Option Addr) (x : Option Addr) (y : Option Addr) (z : Option Addr) (w : World) (R : Ending → World → Prop) : Prop :=
  onP d fun (a : Addr) ↦
  ∃ (m : Option Nat),
  Ld Go.Proofs.Try.prog (59 : Nat) w (Addr.add a (2 : Nat)) (Value.map m) ∧
  CallV Go.Proofs.Try.prog (64 : Nat) [Value.map m, Value.pointer x, Value.pointer y, Value.pointer z] w fun (e : Ending) (w' : World) ↦
  e = Ending.returned (Value.tuple #[]) ∧
  onP d fun (a : Addr) ↦
  ∃ (a_1 : Option Addr),
  ∃ (l : Nat),
  ∃ (c : Nat),
  Ld Go.Proofs.Try.prog (61 : Nat) w' (Addr.add a (4 : Nat)) (Value.slice a_1 l c) ∧
  ∀ (b : Nat) (w1 : World),
  New w' (Obj.cells #[Value.func (Fn.func (64 : Nat)) #[] #[Value.pointer x, Value.pointer y, Value.pointer z]] (85 : Nat)) b w1 →
  ∃ (a : Option Addr),
  ∃ (n : Nat),
  ∃ (m : Nat),
  ∃ (w1_1 : World),
  App Go.Proofs.Try.prog #[(61 : Nat), (61 : Nat)] (61 : Nat) w1 (Value.slice a_1 l c) (Value.slice (some (Addr.mk b (0 : Nat) none)) (1 : Nat) (1 : Nat))
  (Value.slice a n m) w1_1 ∧
  onP d fun (a_2 : Addr) ↦
  ∃ (w1 : World),
  St Go.Proofs.Try.prog (61 : Nat) w1_1 (Addr.add a_2 (4 : Nat)) (Value.slice a n m) w1 ∧
  CallV Go.Proofs.Try.prog (33 : Nat) [Value.pointer d] w1 fun (e : Ending) (w' : World) ↦
  ∃ (i : Int), e = Ending.returned (Value.int IntKind.i64 i) ∧ R (Ending.returned (Value.int IntKind.i64 i)) w'
theorem drenameR.eq (d : Option Addr) (x : Option Addr) (y : Option Addr) (z : Option Addr) (w : World) (R : Ending → World → Prop) : bodyV Go.Proofs.Try.prog drenameR.an Go.Proofs.Try.f28 [.pointer d, (.func (.func 64) #[] #[.pointer x, .pointer y, .pointer z])] w R = drenameR.vc d x y z w R := by kernel_rfl
theorem drenameR.ok (d : Option Addr) (x : Option Addr) (y : Option Addr) (z : Option Addr) (w : World) (R : Ending → World → Prop) (h : drenameR.vc d x y z w R) : Calls Go.Proofs.Try.prog 28 #[.pointer d, (.func (.func 64) #[] #[.pointer x, .pointer y, .pointer z])] w R :=
  calls_of_bodyV noNum (an := drenameR.an) (args := [.pointer d, (.func (.func 64) #[] #[.pointer x, .pointer y, .pointer z])]) Go.Proofs.Try.func28 (by kernel_rfl) ((drenameR.eq d x y z w R).mpr h)

/-- (*incunable/vault.Disk).Create$1 -/
def createC.an : An := { wraps := [], loops := [], joins := [], ranges := [] }
def createC.vc (names : Option Nat) (free0 : Option Addr) (free1 : Option Addr) (w : World) (R : Ending → World → Prop) : Prop :=
  ∃ (s : ByteArray),
  (onP free1 fun (a : Addr) ↦ Ld Go.Proofs.Try.prog (9 : Nat) w a (Value.string s)) ∧
  ∃ (i : Int),
  (onP free0 fun (a : Addr) ↦ Ld Go.Proofs.Try.prog (3 : Nat) w a (Value.int IntKind.i64 i)) ∧
  ∃ (w1 : World), MUp Go.Proofs.Try.prog (59 : Nat) w (Value.map names) (Value.string s) (Value.int IntKind.i64 i) w1 ∧ R (Ending.returned (Value.tuple #[])) w1
theorem createC.eq (names : Option Nat) (free0 : Option Addr) (free1 : Option Addr) (w : World) (R : Ending → World → Prop) : bodyV Go.Proofs.Try.prog createC.an Go.Proofs.Try.f29 [.map names, (.pointer free0), (.pointer free1)] w R = createC.vc names free0 free1 w R := by kernel_rfl
theorem createC.ok (names : Option Nat) (free0 : Option Addr) (free1 : Option Addr) (w : World) (R : Ending → World → Prop) (h : createC.vc names free0 free1 w R) : Calls Go.Proofs.Try.prog 29 #[.map names, (.pointer free0), (.pointer free1)] w R :=
  calls_of_bodyV noNum (an := createC.an) (args := [.map names, (.pointer free0), (.pointer free1)]) Go.Proofs.Try.func29 (by kernel_rfl) ((createC.eq names free0 free1 w R).mpr h)

/-- (*incunable/vault.Disk).find -/
def find.an : An := { wraps := [], loops := [], joins := [], ranges := [] }
def find.vc (d : Option Addr) (name : ByteArray) (w : World) (R : Ending → World → Prop) : Prop :=
  onP d fun (a : Addr) ↦
  ∃ (m : Option Nat),
  Ld Go.Proofs.Try.prog (59 : Nat) w (Addr.add a (2 : Nat)) (Value.map m) ∧
  ∃ (i : Int),
  ∃ (b : Bool),
  Lk Go.Proofs.Try.prog (59 : Nat) true w (Value.map m) (Value.string name) (Value.tuple #[Value.int IntKind.i64 i, Value.bool b]) ∧
  br (!b) (R (Ending.returned (Value.pointer none)) w)
  (onP d fun (a : Addr) ↦
  ∃ (a_1 : Option Addr),
  ∃ (l : Nat),
  ∃ (c : Nat),
  Ld Go.Proofs.Try.prog (60 : Nat) w (Addr.add a (1 : Nat)) (Value.slice a_1 l c) ∧
  onP a_1 fun (a : Addr) ↦
  ((0 : Int) ≤ i ∧ i < (↑l : Int)) ∧
  ∃ (p : Option Addr), Ld Go.Proofs.Try.prog (67 : Nat) w (Addr.add a (Int.toNat i * (1 : Nat))) (Value.pointer p) ∧ R (Ending.returned (Value.pointer p)) w)
theorem find.eq (d : Option Addr) (name : ByteArray) (w : World) (R : Ending → World → Prop) : bodyV Go.Proofs.Try.prog find.an Go.Proofs.Try.f30 [.pointer d, .string name] w R = find.vc d name w R := by kernel_rfl
theorem find.ok (d : Option Addr) (name : ByteArray) (w : World) (R : Ending → World → Prop) (h : find.vc d name w R) : Calls Go.Proofs.Try.prog 30 #[.pointer d, .string name] w R :=
  calls_of_bodyV noNum (an := find.an) (args := [.pointer d, .string name]) Go.Proofs.Try.func30 (by kernel_rfl) ((find.eq d name w R).mpr h)

/-- (*incunable/vault.Disk).Used -/
def used.an : An := { wraps := [], loops := [(3, [(3, .inl .i64)])], joins := [], ranges := [] }
def used.vc (d : Option Addr) (w : World) (R : Ending → World → Prop) : Prop :=
  onP d fun (a : Addr) ↦
  ∃ (m : Option Nat),
  Ld Go.Proofs.Try.prog (59 : Nat) w (Addr.add a (2 : Nat)) (Value.map m) ∧
  ∃ (p : Option Addr),
  ∃ (w1 : World),
  Rng Go.Proofs.Try.prog (59 : Nat) w (Value.map m) (Value.pointer p) w1 ∧
  LoopP
  (fun (s : Int) (w' : World) (next : Int → World → Prop) ↦
  (∃ (w1 : World), Nxt Go.Proofs.Try.prog false (0 : Nat) w' (Value.pointer p) (Value.tuple #[Value.bool false]) w1 ∧ R (Ending.returned (Value.int IntKind.i64 s)) w1) ∨
  ∃ (k : Value),
  ∃ (v : Value),
  ∃ (w1 : World),
  Nxt Go.Proofs.Try.prog false (0 : Nat) w' (Value.pointer p) (Value.tuple #[Value.bool true, k, v]) w1 ∧
  ∃ (v : Value),
  ∃ (i : Int),
  ∃ (w1_1 : World),
  Etr Go.Proofs.Try.prog w1 (Value.pointer p) (Value.tuple #[v, Value.int IntKind.i64 i]) w1_1 ∧
  onP d fun (a : Addr) ↦
  ∃ (a_1 : Option Addr),
  ∃ (l : Nat),
  ∃ (c : Nat),
  Ld Go.Proofs.Try.prog (60 : Nat) w1_1 (Addr.add a (1 : Nat)) (Value.slice a_1 l c) ∧
  onP a_1 fun (a : Addr) ↦
  ((0 : Int) ≤ i ∧ i < (↑l : Int)) ∧
  ∃ (p : Option Addr),
  Ld Go.Proofs.Try.prog (67 : Nat) w1_1 (Addr.add a (Int.toNat i * (1 : Nat))) (Value.pointer p) ∧
  onP p fun (a : Addr) ↦
  ∃ (a_2 : Option Addr),
  ∃ (l : Nat),
  ∃ (c : Nat), Ld Go.Proofs.Try.prog (69 : Nat) w1_1 a (Value.slice a_2 l c) ∧ inR IntKind.i64 (s + (↑l : Int)) ∧ next (s + (↑l : Int)) w1_1)
  (0 : Int) w1
theorem used.eq (d : Option Addr) (w : World) (R : Ending → World → Prop) : bodyV Go.Proofs.Try.prog used.an Go.Proofs.Try.f31 [.pointer d] w R = used.vc d w R := by kernel_rfl
theorem used.ok (d : Option Addr) (w : World) (R : Ending → World → Prop) (h : used.vc d w R) : Calls Go.Proofs.Try.prog 31 #[.pointer d] w R :=
  calls_of_bodyV noNum (an := used.an) (args := [.pointer d]) Go.Proofs.Try.func31 (by kernel_rfl) ((used.eq d w R).mpr h)

/-- (*incunable/vault.Disk).denies -/
def denies.an : An := { wraps := [], loops := [], joins := [], ranges := [] }
def denies.vc (d : Option Addr) (w : World) (R : Ending → World → Prop) : Prop :=
  onP d fun (a : Addr) ↦
  ∃ (i : Int),
  Ld Go.Proofs.Try.prog (3 : Nat) w (Addr.add a (6 : Nat)) (Value.int IntKind.i64 i) ∧
  br (decide (i = (0 : Int))) (R (Ending.returned (Value.bool false)) w)
  (onP d fun (a : Addr) ↦
  ∃ (i : Int),
  Ld Go.Proofs.Try.prog (3 : Nat) w (Addr.add a (6 : Nat)) (Value.int IntKind.i64 i) ∧
  inR IntKind.i64 (i - (1 : Int)) ∧
  onP d fun (a : Addr) ↦
  ∃ (w1 : World),
  St Go.Proofs.Try.prog (3 : Nat) w (Addr.add a (6 : Nat)) (Value.int IntKind.i64 (i - (1 : Int))) w1 ∧
  onP d fun (a : Addr) ↦
  ∃ (i : Int), Ld Go.Proofs.Try.prog (3 : Nat) w1 (Addr.add a (6 : Nat)) (Value.int IntKind.i64 i) ∧ R (Ending.returned (Value.bool (decide (i = (0 : Int))))) w1)
theorem denies.eq (d : Option Addr) (w : World) (R : Ending → World → Prop) : bodyV Go.Proofs.Try.prog denies.an Go.Proofs.Try.f32 [.pointer d] w R = denies.vc d w R := by kernel_rfl
theorem denies.ok (d : Option Addr) (w : World) (R : Ending → World → Prop) (h : denies.vc d w R) : Calls Go.Proofs.Try.prog 32 #[.pointer d] w R :=
  calls_of_bodyV noNum (an := denies.an) (args := [.pointer d]) Go.Proofs.Try.func32 (by kernel_rfl) ((denies.eq d w R).mpr h)

/-- (*incunable/vault.Disk).done -/
def done.an : An := { wraps := [], loops := [], joins := [], ranges := [] }
def done.vc (d : Option Addr) (w : World) (R : Ending → World → Prop) : Prop :=
  CallV Go.Proofs.Try.prog (47 : Nat) [Value.pointer d] w fun (e : Ending) (w' : World) ↦
  ∃ (b : Bool), e = Ending.returned (Value.bool b) ∧ br b (R (Ending.returned (Value.int IntKind.i64 (93 : Int))) w') (R (Ending.returned (Value.int IntKind.i64 (0 : Int))) w')
theorem done.eq (d : Option Addr) (w : World) (R : Ending → World → Prop) : bodyV Go.Proofs.Try.prog done.an Go.Proofs.Try.f33 [.pointer d] w R = done.vc d w R := by kernel_rfl
theorem done.ok (d : Option Addr) (w : World) (R : Ending → World → Prop) (h : done.vc d w R) : Calls Go.Proofs.Try.prog 33 #[.pointer d] w R :=
  calls_of_bodyV noNum (an := done.an) (args := [.pointer d]) Go.Proofs.Try.func33 (by kernel_rfl) ((done.eq d w R).mpr h)

/-- (*incunable/vault.Disk).Dead -/
def dead.an : An := { wraps := [], loops := [], joins := [], ranges := [] }
def dead.vc (d : Option Addr) (w : World) (R : Ending → World → Prop) : Prop :=
  onP d fun (a : Addr) ↦ ∃ (b : Bool), Ld Go.Proofs.Try.prog (4 : Nat) w (Addr.add a (7 : Nat)) (Value.bool b) ∧ R (Ending.returned (Value.bool b)) w
theorem dead.eq (d : Option Addr) (w : World) (R : Ending → World → Prop) : bodyV Go.Proofs.Try.prog dead.an Go.Proofs.Try.f34 [.pointer d] w R = dead.vc d w R := by kernel_rfl
theorem dead.ok (d : Option Addr) (w : World) (R : Ending → World → Prop) (h : dead.vc d w R) : Calls Go.Proofs.Try.prog 34 #[.pointer d] w R :=
  calls_of_bodyV noNum (an := dead.an) (args := [.pointer d]) Go.Proofs.Try.func34 (by kernel_rfl) ((dead.eq d w R).mpr h)

/-- (*incunable/vault.Disk).Size -/
def size.an : An := { wraps := [], loops := [], joins := [], ranges := [] }
def size.vc (d : Option Addr) (name : ByteArray) (w : World) (R : Ending → World → Prop) : Prop :=
  CallV Go.Proofs.Try.prog (30 : Nat) [Value.pointer d, Value.string name] w fun (e : Ending) (w' : World) ↦
  ∃ (p : Option Addr),
  e = Ending.returned (Value.pointer p) ∧
  ∃ (b : Bool),
  Eqv Go.Proofs.Try.prog BinOp.eql (67 : Nat) (Operand.tmp (9 : Nat)) (Operand.const (Value.pointer none)) w' (Value.pointer p) (Value.pointer none) b ∧
  br b (R (Ending.returned (Value.int IntKind.i64 (-1 : Int))) w')
  (onP p fun (a : Addr) ↦
  ∃ (a_1 : Option Addr), ∃ (l : Nat), ∃ (c : Nat), Ld Go.Proofs.Try.prog (69 : Nat) w' a (Value.slice a_1 l c) ∧ R (Ending.returned (Value.int IntKind.i64 (↑l : Int))) w')
theorem size.eq (d : Option Addr) (name : ByteArray) (w : World) (R : Ending → World → Prop) : bodyV Go.Proofs.Try.prog size.an Go.Proofs.Try.f35 [.pointer d, .string name] w R = size.vc d name w R := by kernel_rfl
theorem size.ok (d : Option Addr) (name : ByteArray) (w : World) (R : Ending → World → Prop) (h : size.vc d name w R) : Calls Go.Proofs.Try.prog 35 #[.pointer d, .string name] w R :=
  calls_of_bodyV noNum (an := size.an) (args := [.pointer d, .string name]) Go.Proofs.Try.func35 (by kernel_rfl) ((size.eq d name w R).mpr h)

/-- (*incunable/redo.Log).find -/
def lfind.an : An := { wraps := [], loops := [(3, [(4, .inl .u64), (14, .inl .i64)]), (12, [(9, .inl .i64)])], joins := [], ranges := [] }
def lfind.vc (l : Option Addr) (w : World) (R : Ending → World → Prop) : Prop :=
  LoopP
  (fun (s : Int × Int) (w' : World) (next : Int × Int → World → Prop) ↦
  br (decide (Prod.snd s < (2 : Int)))
  (CallV Go.Proofs.Try.prog (48 : Nat) [Value.pointer l, Value.int IntKind.i64 (Prod.snd s)] w' fun (e : Ending) (w' : World) ↦
  ∃ (i : Int),
  ∃ (i_1 : Int),
  ∃ (b : Bool),
  e = Ending.returned (Value.tuple #[Value.int IntKind.u64 i, Value.int IntKind.u64 i_1, Value.bool b]) ∧
  br b
  (onP l fun (a : Addr) ↦
  ∃ (i_2 : Int),
  Ld Go.Proofs.Try.prog (77 : Nat) w' (Addr.add a (2 : Nat)) (Value.int IntKind.u64 i_2) ∧
  br (decide (i_2 < i))
  (onP l fun (a : Addr) ↦
  ∃ (w1 : World),
  St Go.Proofs.Try.prog (77 : Nat) w' (Addr.add a (2 : Nat)) (Value.int IntKind.u64 i) w1 ∧ inR IntKind.i64 (Prod.snd s + (1 : Int)) ∧ next (i_1, Prod.snd s + (1 : Int)) w1)
  (inR IntKind.i64 (Prod.snd s + (1 : Int)) ∧ next (Prod.fst s, Prod.snd s + (1 : Int)) w'))
  (inR IntKind.i64 (Prod.snd s + (1 : Int)) ∧ next (Prod.fst s, Prod.snd s + (1 : Int)) w'))
  (onP l fun (a : Addr) ↦
  ∃ (p : Option Addr),
  Ld Go.Proofs.Try.prog (23 : Nat) (World.drew w') a (Value.pointer p) ∧
  onP l fun (a : Addr) ↦
  ∃ (s_1 : ByteArray),
  Ld Go.Proofs.Try.prog (9 : Nat) (World.drew w') (Addr.add a (1 : Nat)) (Value.string s_1) ∧
  CallV Go.Proofs.Try.prog (35 : Nat) [Value.pointer p, Value.string s_1] (World.drew w') fun (e : Ending) (w' : World) ↦
  ∃ (i : Int),
  e = Ending.returned (Value.int IntKind.i64 i) ∧
  inR IntKind.i64 (i - (2 : Int)) ∧
  inR IntKind.i64 ((i - (2 : Int)) * (512 : Int)) ∧
  br (decide (IntKind.wrap IntKind.u64 ((i - (2 : Int)) * (512 : Int)) < Prod.fst s))
  (R (Ending.returned (Value.tuple #[Value.pointer none, Value.int IntKind.i64 (100 : Int)])) w')
  (LoopP
  (fun (s_2 : Int) (w' : World) (next : Int → World → Prop) ↦
  onP l fun (a : Addr) ↦
  ∃ (a_1 : Option Addr),
  ∃ (l_1 : Nat),
  ∃ (c : Nat),
  Ld Go.Proofs.Try.prog (28 : Nat) w' (Addr.add a (3 : Nat)) (Value.slice a_1 l_1 c) ∧
  br (decide ((↑l_1 : Int) < IntKind.wrap IntKind.i64 (Prod.fst s)))
  (onP l fun (a : Addr) ↦
  ∃ (p : Option Addr),
  Ld Go.Proofs.Try.prog (23 : Nat) (World.drew w') a (Value.pointer p) ∧
  onP l fun (a : Addr) ↦
  ∃ (s : ByteArray),
  Ld Go.Proofs.Try.prog (9 : Nat) (World.drew w') (Addr.add a (1 : Nat)) (Value.string s) ∧
  CallV Go.Proofs.Try.prog (49 : Nat) [Value.pointer p, Value.string s, Value.int IntKind.i64 s_2] (World.drew w') fun (e : Ending) (w' : World) ↦
  ∃ (a : Option Addr),
  ∃ (l_2 : Nat),
  ∃ (c : Nat),
  ∃ (i : Int),
  e = Ending.returned (Value.tuple #[Value.slice a l_2 c, Value.int IntKind.i64 i]) ∧
  br (!decide (i = (0 : Int))) (R (Ending.returned (Value.tuple #[Value.pointer none, Value.int IntKind.i64 i])) w')
  (onP l fun (a_2 : Addr) ↦
  ∃ (a_3 : Option Addr),
  ∃ (l_3 : Nat),
  ∃ (c_1 : Nat),
  Ld Go.Proofs.Try.prog (28 : Nat) w' (Addr.add a_2 (3 : Nat)) (Value.slice a_3 l_3 c_1) ∧
  ∃ (a_4 : Option Addr),
  ∃ (n : Nat),
  ∃ (m : Nat),
  ∃ (w1 : World),
  App Go.Proofs.Try.prog #[(28 : Nat), (28 : Nat)] (28 : Nat) w' (Value.slice a_3 l_3 c_1) (Value.slice a l_2 c)
  (Value.slice a_4 n m) w1 ∧
  onP l fun (a : Addr) ↦
  ∃ (w1_1 : World),
  St Go.Proofs.Try.prog (28 : Nat) w1 (Addr.add a (3 : Nat)) (Value.slice a_4 n m) w1_1 ∧
  inR IntKind.i64 (s_2 + (1 : Int)) ∧ next (s_2 + (1 : Int)) w1_1))
  (onP l fun (a : Addr) ↦
  ∃ (a_2 : Option Addr),
  ∃ (l_2 : Nat),
  ∃ (c : Nat),
  Ld Go.Proofs.Try.prog (28 : Nat) w' (Addr.add a (3 : Nat)) (Value.slice a_2 l_2 c) ∧
  ((0 : Int) ≤ Prod.fst s ∧ Prod.fst s ≤ Prod.fst s ∧ Prod.fst s ≤ (↑c : Int)) ∧
  onP l fun (a : Addr) ↦
  ∃ (w1 : World),
  St Go.Proofs.Try.prog (28 : Nat) w' (Addr.add a (3 : Nat)) (Value.slice a_2 (Int.toNat (Prod.fst s)) (Int.toNat (Prod.fst s))) w1 ∧
  onP l fun (a : Addr) ↦
  ∃ (a_3 : Option Addr),
  ∃ (l_3 : Nat),
  ∃ (c : Nat),
  Ld Go.Proofs.Try.prog (28 : Nat) w1 (Addr.add a (3 : Nat)) (Value.slice a_3 l_3 c) ∧
  CallV Go.Proofs.Try.prog (50 : Nat) [Value.slice a_3 l_3 c] w1 fun (e : Ending) (w' : World) ↦
  ∃ (a : Option Addr),
  ∃ (l_4 : Nat),
  ∃ (c : Nat),
  ∃ (b : Bool),
  e = Ending.returned (Value.tuple #[Value.slice a l_4 c, Value.bool b]) ∧
  br (!b) (R (Ending.returned (Value.tuple #[Value.pointer none, Value.int IntKind.i64 (100 : Int)])) w')
  (onP l fun (a_4 : Addr) ↦
  ∃ (a_5 : Option Addr),
  ∃ (l_5 : Nat),
  ∃ (c_1 : Nat),
  Ld Go.Proofs.Try.prog (28 : Nat) w' (Addr.add a_4 (3 : Nat)) (Value.slice a_5 l_5 c_1) ∧
  onP l fun (a_6 : Addr) ↦
  ∃ (w1 : World),
  St Go.Proofs.Try.prog (49 : Nat) w' (Addr.add a_6 (6 : Nat)) (Value.slice a l_4 c) w1 ∧
  onP l fun (a : Addr) ↦
  ∃ (w1_1 : World),
  St Go.Proofs.Try.prog (3 : Nat) w1 (Addr.add a (4 : Nat)) (Value.int IntKind.i64 (↑l_5 : Int))
  w1_1 ∧
  onP l fun (a : Addr) ↦
  ∃ (w1 : World),
  St Go.Proofs.Try.prog (3 : Nat) w1_1 (Addr.add a (5 : Nat))
  (Value.int IntKind.i64 (↑l_4 : Int)) w1 ∧
  R
  (Ending.returned
  (Value.tuple #[Value.pointer l, Value.int IntKind.i64 (0 : Int)]))
  w1)))
  (2 : Int) w')))
  ((0 : Int), (0 : Int)) w
theorem lfind.eq (l : Option Addr) (w : World) (R : Ending → World → Prop) : bodyV Go.Proofs.Try.prog lfind.an Go.Proofs.Try.f36 [.pointer l] w R = lfind.vc l w R := by kernel_rfl
theorem lfind.ok (l : Option Addr) (w : World) (R : Ending → World → Prop) (h : lfind.vc l w R) : Calls Go.Proofs.Try.prog 36 #[.pointer l] w R :=
  calls_of_bodyV noNum (an := lfind.an) (args := [.pointer l]) Go.Proofs.Try.func36 (by kernel_rfl) ((lfind.eq l w R).mpr h)

/-- (*incunable/redo.Log).renew -/
def lrenew.an : An := { wraps := [], loops := [(3, [(5, .inr 3), (11, .inl .i64)])], joins := [], ranges := [] }
def lrenew.vc (l : Option Addr) (alla : Option Addr) (alln : Nat) (allc : Nat) (w : World) (R : Ending → World → Prop) : Prop :=
  LoopP
  (fun (s : (Option Addr × Nat × Nat) × Int) (w' : World) (next : (Option Addr × Nat × Nat) × Int → World → Prop) ↦
  br (decide (Prod.snd s < (↑alln : Int)))
  (onP alla fun (a : Addr) ↦
  ((0 : Int) ≤ Prod.snd s ∧ Prod.snd s < (↑alln : Int)) ∧
  ∃ (s_1 : ByteArray),
  Ld Go.Proofs.Try.prog (9 : Nat) w' (Addr.add a (Int.toNat (Prod.snd s) * (1 : Nat))) (Value.string s_1) ∧
  CallV Go.Proofs.Try.prog (43 : Nat) [Value.slice (Prod.fst (Prod.fst s)) (Prod.fst (Prod.snd (Prod.fst s))) (Prod.snd (Prod.snd (Prod.fst s))), Value.string s_1] w'
  fun (e : Ending) (w' : World) ↦
  ∃ (a : Option Addr), ∃ (l : Nat), ∃ (c : Nat), e = Ending.returned (Value.slice a l c) ∧ inR IntKind.i64 (Prod.snd s + (1 : Int)) ∧ next ((a, l, c), Prod.snd s + (1 : Int)) w')
  (onP l fun (a : Addr) ↦
  ∃ (s_1 : ByteArray),
  Ld Go.Proofs.Try.prog (9 : Nat) w' (Addr.add a (1 : Nat)) (Value.string s_1) ∧
  (↑(ByteArray.size s_1 + ByteArray.size (ByteArray.mk #[(46 : UInt8), (110 : UInt8), (101 : UInt8), (119 : UInt8)])) : Int) ≤ (9223372036854775807 : Int) ∧
  CallV Go.Proofs.Try.prog (51 : Nat)
  [Value.pointer l, Value.string (s_1 ++ ByteArray.mk #[(46 : UInt8), (110 : UInt8), (101 : UInt8), (119 : UInt8)]),
  Value.slice (Prod.fst (Prod.fst s)) (Prod.fst (Prod.snd (Prod.fst s))) (Prod.snd (Prod.snd (Prod.fst s)))]
  w' fun (e : Ending) (w' : World) ↦
  ∃ (i : Int),
  e = Ending.returned (Value.int IntKind.i64 i) ∧
  br (decide (i = (0 : Int)))
  (onP l fun (a : Addr) ↦
  ∃ (p : Option Addr),
  Ld Go.Proofs.Try.prog (23 : Nat) (World.drew w') a (Value.pointer p) ∧
  onP l fun (a : Addr) ↦
  ∃ (s_2 : ByteArray),
  Ld Go.Proofs.Try.prog (9 : Nat) (World.drew w') (Addr.add a (1 : Nat)) (Value.string s_2) ∧
  (↑(ByteArray.size s_2 + ByteArray.size (ByteArray.mk #[(46 : UInt8), (110 : UInt8), (101 : UInt8), (119 : UInt8)])) : Int) ≤ (9223372036854775807 : Int) ∧
  onP l fun (a : Addr) ↦
  ∃ (s_3 : ByteArray),
  Ld Go.Proofs.Try.prog (9 : Nat) (World.drew w') (Addr.add a (1 : Nat)) (Value.string s_3) ∧
  CallV Go.Proofs.Try.prog (52 : Nat)
  [Value.pointer p, Value.string (s_2 ++ ByteArray.mk #[(46 : UInt8), (110 : UInt8), (101 : UInt8), (119 : UInt8)]), Value.string s_3] (World.drew w')
  fun (e : Ending) (w' : World) ↦
  ∃ (i : Int),
  e = Ending.returned (Value.int IntKind.i64 i) ∧
  br (decide (i = (0 : Int)))
  (onP l fun (a : Addr) ↦
  ∃ (p : Option Addr),
  Ld Go.Proofs.Try.prog (23 : Nat) w' a (Value.pointer p) ∧
  CallV Go.Proofs.Try.prog (53 : Nat) [Value.pointer p] w' fun (e : Ending) (w' : World) ↦
  ∃ (i : Int),
  e = Ending.returned (Value.int IntKind.i64 i) ∧
  br (!decide (i = (0 : Int))) (R (Ending.returned (Value.int IntKind.i64 i)) w')
  (onP l fun (a : Addr) ↦
  ∃ (w1 : World),
  St Go.Proofs.Try.prog (77 : Nat) w' (Addr.add a (2 : Nat)) (Value.int IntKind.u64 (1 : Int)) w1 ∧
  onP l fun (a : Addr) ↦
  ∃ (w1_1 : World),
  St Go.Proofs.Try.prog (28 : Nat) w1 (Addr.add a (3 : Nat))
  (Value.slice (Prod.fst (Prod.fst s)) (Prod.fst (Prod.snd (Prod.fst s))) (Prod.snd (Prod.snd (Prod.fst s)))) w1_1 ∧
  onP l fun (a : Addr) ↦
  ∃ (w1 : World),
  St Go.Proofs.Try.prog (3 : Nat) w1_1 (Addr.add a (4 : Nat))
  (Value.int IntKind.i64 (↑(Prod.fst (Prod.snd (Prod.fst s))) : Int)) w1 ∧
  CallV Go.Proofs.Try.prog (42 : Nat) [Value.slice alla alln allc] w1 fun (e : Ending) (w' : World) ↦
  ∃ (a : Option Addr),
  ∃ (l_1 : Nat),
  ∃ (c : Nat),
  e = Ending.returned (Value.slice a l_1 c) ∧
  onP l fun (a_1 : Addr) ↦
  ∃ (w1 : World),
  St Go.Proofs.Try.prog (49 : Nat) w' (Addr.add a_1 (6 : Nat)) (Value.slice a l_1 c) w1 ∧
  onP l fun (a : Addr) ↦
  ∃ (w1_2 : World),
  St Go.Proofs.Try.prog (3 : Nat) w1 (Addr.add a (5 : Nat)) (Value.int IntKind.i64 (↑alln : Int))
  w1_2 ∧
  R (Ending.returned (Value.int IntKind.i64 (0 : Int))) w1_2))
  (br (!decide (i = (0 : Int))) (R (Ending.returned (Value.int IntKind.i64 i)) w')
  (onP l fun (a : Addr) ↦
  ∃ (w1 : World),
  St Go.Proofs.Try.prog (77 : Nat) w' (Addr.add a (2 : Nat)) (Value.int IntKind.u64 (1 : Int)) w1 ∧
  onP l fun (a : Addr) ↦
  ∃ (w1_1 : World),
  St Go.Proofs.Try.prog (28 : Nat) w1 (Addr.add a (3 : Nat))
  (Value.slice (Prod.fst (Prod.fst s)) (Prod.fst (Prod.snd (Prod.fst s))) (Prod.snd (Prod.snd (Prod.fst s)))) w1_1 ∧
  onP l fun (a : Addr) ↦
  ∃ (w1 : World),
  St Go.Proofs.Try.prog (3 : Nat) w1_1 (Addr.add a (4 : Nat)) (Value.int IntKind.i64 (↑(Prod.fst (Prod.snd (Prod.fst s))) : Int)) w1 ∧
  CallV Go.Proofs.Try.prog (42 : Nat) [Value.slice alla alln allc] w1 fun (e : Ending) (w' : World) ↦
  ∃ (a : Option Addr),
  ∃ (l_1 : Nat),
  ∃ (c : Nat),
  e = Ending.returned (Value.slice a l_1 c) ∧
  onP l fun (a_1 : Addr) ↦
  ∃ (w1 : World),
  St Go.Proofs.Try.prog (49 : Nat) w' (Addr.add a_1 (6 : Nat)) (Value.slice a l_1 c) w1 ∧
  onP l fun (a : Addr) ↦
  ∃ (w1_2 : World),
  St Go.Proofs.Try.prog (3 : Nat) w1 (Addr.add a (5 : Nat)) (Value.int IntKind.i64 (↑alln : Int)) w1_2 ∧
  R (Ending.returned (Value.int IntKind.i64 (0 : Int))) w1_2)))
  (br (decide (i = (0 : Int)))
  (onP l fun (a : Addr) ↦
  ∃ (p : Option Addr),
  Ld Go.Proofs.Try.prog (23 : Nat) w' a (Value.pointer p) ∧
  CallV Go.Proofs.Try.prog (53 : Nat) [Value.pointer p] w' fun (e : Ending) (w' : World) ↦
  ∃ (i : Int),
  e = Ending.returned (Value.int IntKind.i64 i) ∧
  br (!decide (i = (0 : Int))) (R (Ending.returned (Value.int IntKind.i64 i)) w')
  (onP l fun (a : Addr) ↦
  ∃ (w1 : World),
  St Go.Proofs.Try.prog (77 : Nat) w' (Addr.add a (2 : Nat)) (Value.int IntKind.u64 (1 : Int)) w1 ∧
  onP l fun (a : Addr) ↦
  ∃ (w1_1 : World),
  St Go.Proofs.Try.prog (28 : Nat) w1 (Addr.add a (3 : Nat))
  (Value.slice (Prod.fst (Prod.fst s)) (Prod.fst (Prod.snd (Prod.fst s))) (Prod.snd (Prod.snd (Prod.fst s)))) w1_1 ∧
  onP l fun (a : Addr) ↦
  ∃ (w1 : World),
  St Go.Proofs.Try.prog (3 : Nat) w1_1 (Addr.add a (4 : Nat)) (Value.int IntKind.i64 (↑(Prod.fst (Prod.snd (Prod.fst s))) : Int)) w1 ∧
  CallV Go.Proofs.Try.prog (42 : Nat) [Value.slice alla alln allc] w1 fun (e : Ending) (w' : World) ↦
  ∃ (a : Option Addr),
  ∃ (l_1 : Nat),
  ∃ (c : Nat),
  e = Ending.returned (Value.slice a l_1 c) ∧
  onP l fun (a_1 : Addr) ↦
  ∃ (w1 : World),
  St Go.Proofs.Try.prog (49 : Nat) w' (Addr.add a_1 (6 : Nat)) (Value.slice a l_1 c) w1 ∧
  onP l fun (a : Addr) ↦
  ∃ (w1_2 : World),
  St Go.Proofs.Try.prog (3 : Nat) w1 (Addr.add a (5 : Nat)) (Value.int IntKind.i64 (↑alln : Int)) w1_2 ∧
  R (Ending.returned (Value.int IntKind.i64 (0 : Int))) w1_2))
  (br (!decide (i = (0 : Int))) (R (Ending.returned (Value.int IntKind.i64 i)) w')
  (onP l fun (a : Addr) ↦
  ∃ (w1 : World),
  St Go.Proofs.Try.prog (77 : Nat) w' (Addr.add a (2 : Nat)) (Value.int IntKind.u64 (1 : Int)) w1 ∧
  onP l fun (a : Addr) ↦
  ∃ (w1_1 : World),
  St Go.Proofs.Try.prog (28 : Nat) w1 (Addr.add a (3 : Nat)) (Value.slice (Prod.fst (Prod.fst s)) (Prod.fst (Prod.snd (Prod.fst s))) (Prod.snd (Prod.snd (Prod.fst s))))
  w1_1 ∧
  onP l fun (a : Addr) ↦
  ∃ (w1 : World),
  St Go.Proofs.Try.prog (3 : Nat) w1_1 (Addr.add a (4 : Nat)) (Value.int IntKind.i64 (↑(Prod.fst (Prod.snd (Prod.fst s))) : Int)) w1 ∧
  CallV Go.Proofs.Try.prog (42 : Nat) [Value.slice alla alln allc] w1 fun (e : Ending) (w' : World) ↦
  ∃ (a : Option Addr),
  ∃ (l_1 : Nat),
  ∃ (c : Nat),
  e = Ending.returned (Value.slice a l_1 c) ∧
  onP l fun (a_1 : Addr) ↦
  ∃ (w1 : World),
  St Go.Proofs.Try.prog (49 : Nat) w' (Addr.add a_1 (6 : Nat)) (Value.slice a l_1 c) w1 ∧
  onP l fun (a : Addr) ↦
  ∃ (w1_2 : World),
  St Go.Proofs.Try.prog (3 : Nat) w1 (Addr.add a (5 : Nat)) (Value.int IntKind.i64 (↑alln : Int)) w1_2 ∧
  R (Ending.returned (Value.int IntKind.i64 (0 : Int))) w1_2)))))
  ((none, (0 : Nat), (0 : Nat)), (0 : Int)) w
theorem lrenew.eq (l : Option Addr) (alla : Option Addr) (alln : Nat) (allc : Nat) (w : World) (R : Ending → World → Prop) : bodyV Go.Proofs.Try.prog lrenew.an Go.Proofs.Try.f37 [.pointer l, .slice alla alln allc] w R = lrenew.vc l alla alln allc w R := by kernel_rfl
theorem lrenew.ok (l : Option Addr) (alla : Option Addr) (alln : Nat) (allc : Nat) (w : World) (R : Ending → World → Prop) (h : lrenew.vc l alla alln allc w R) : Calls Go.Proofs.Try.prog 37 #[.pointer l, .slice alla alln allc] w R :=
  calls_of_bodyV noNum (an := lrenew.an) (args := [.pointer l, .slice alla alln allc]) Go.Proofs.Try.func37 (by kernel_rfl) ((lrenew.eq l alla alln allc w R).mpr h)

/-- (*incunable/vault.Disk).Crash$1 -/
def crashC.an : An := { wraps := [], loops := [], joins := [], ranges := [] }
def crashC.vc (free0 : Option Addr) (w : World) (R : Ending → World → Prop) : Prop :=
  ∃ (a : Option Addr),
  ∃ (l : Nat),
  ∃ (c : Nat),
  (onP free0 fun (a_1 : Addr) ↦ Ld Go.Proofs.Try.prog (29 : Nat) w a_1 (Value.slice a l c)) ∧
  br (decide ((↑l : Int) = (0 : Int))) (R (Ending.returned (Value.int IntKind.i64 (0 : Int))) w)
  (∃ (a : Option Addr),
  ∃ (l : Nat),
  ∃ (c : Nat),
  (onP free0 fun (a_1 : Addr) ↦ Ld Go.Proofs.Try.prog (29 : Nat) w a_1 (Value.slice a l c)) ∧
  onP a fun (a : Addr) ↦
  ((0 : Int) ≤ (0 : Int) ∧ (0 : Int) < (↑l : Int)) ∧
  ∃ (i : Int),
  Ld Go.Proofs.Try.prog (3 : Nat) w a (Value.int IntKind.i64 i) ∧
  ∃ (a : Option Addr),
  ∃ (l : Nat),
  ∃ (c : Nat),
  (onP free0 fun (a_1 : Addr) ↦ Ld Go.Proofs.Try.prog (29 : Nat) w a_1 (Value.slice a l c)) ∧
  ((0 : Int) ≤ (1 : Int) ∧ (1 : Int) ≤ (↑l : Int)) ∧
  onP free0 fun (a_1 : Addr) ↦
  ∃ (w1 : World),
  St Go.Proofs.Try.prog (29 : Nat) w a_1 (Value.slice (slA a c (Int.toNat (1 : Int)) (1 : Nat)) (l - Int.toNat (1 : Int)) (c - Int.toNat (1 : Int))) w1 ∧
  R (Ending.returned (Value.int IntKind.i64 i)) w1)
theorem crashC.eq (free0 : Option Addr) (w : World) (R : Ending → World → Prop) : bodyV Go.Proofs.Try.prog crashC.an Go.Proofs.Try.f38 [(.pointer free0)] w R = crashC.vc free0 w R := by kernel_rfl
theorem crashC.ok (free0 : Option Addr) (w : World) (R : Ending → World → Prop) (h : crashC.vc free0 w R) : Calls Go.Proofs.Try.prog 38 #[(.pointer free0)] w R :=
  calls_of_bodyV noNum (an := crashC.an) (args := [(.pointer free0)]) Go.Proofs.Try.func38 (by kernel_rfl) ((crashC.eq free0 w R).mpr h)

/-- (*incunable/vault.file).found -/
def found.an : An := { wraps := [], loops := [(3, [(5, .inr 3), (21, .inl .i64)]), (7, [(5, .inr 3)])], joins := [], ranges := [] }
def found.vc (f : Option Addr) (next : Value) (w : World) (R : Ending → World → Prop) : Prop :=
  onP f fun (a : Addr) ↦
  ∃ (a_1 : Option Addr),
  ∃ (l : Nat),
  ∃ (c : Nat),
  Ld Go.Proofs.Try.prog (69 : Nat) w (Addr.add a (1 : Nat)) (Value.slice a_1 l c) ∧
  CallV Go.Proofs.Try.prog (54 : Nat) [Value.slice a_1 l c] w fun (e : Ending) (w' : World) ↦
  ∃ (a : Option Addr),
  ∃ (l : Nat),
  ∃ (c : Nat),
  e = Ending.returned (Value.slice a l c) ∧
  onP f fun (a_2 : Addr) ↦
  ∃ (m : Option Nat),
  Ld Go.Proofs.Try.prog (68 : Nat) w' (Addr.add a_2 (2 : Nat)) (Value.map m) ∧
  CallV Go.Proofs.Try.prog (56 : Nat) [Value.map m] w' fun (e : Ending) (w' : World) ↦
  ∃ (v : Value),
  e = Ending.returned v ∧
  CallV Go.Proofs.Try.prog (55 : Nat) [v] w' fun (e : Ending) (w' : World) ↦
  ∃ (a_3 : Option Addr),
  ∃ (l_1 : Nat),
  ∃ (c_1 : Nat),
  e = Ending.returned (Value.slice a_3 l_1 c_1) ∧
  LoopP
  (fun (s : (Option Addr × Nat × Nat) × Int) (w' : World) (next_1 : (Option Addr × Nat × Nat) × Int → World → Prop) ↦
  br (decide (Prod.snd s < (↑l_1 : Int)))
  (onP a_3 fun (a : Addr) ↦
  ((0 : Int) ≤ Prod.snd s ∧ Prod.snd s < (↑l_1 : Int)) ∧
  ∃ (i : Int),
  Ld Go.Proofs.Try.prog (3 : Nat) w' (Addr.add a (Int.toNat (Prod.snd s) * (1 : Nat))) (Value.int IntKind.i64 i) ∧
  CallX Go.Proofs.Try.prog next [] w' fun (e : Ending) (w' : World) ↦
  ∃ (i_1 : Int),
  e = Ending.returned (Value.int IntKind.i64 i_1) ∧
  br (decide (min (max i_1 (0 : Int)) (512 : Int) = (0 : Int)))
  (inR IntKind.i64 (Prod.snd s + (1 : Int)) ∧
  next_1 ((Prod.fst (Prod.fst s), Prod.fst (Prod.snd (Prod.fst s)), Prod.snd (Prod.snd (Prod.fst s))), Prod.snd s + (1 : Int)) w')
  (LoopP
  (fun (s_1 : Option Addr × Nat × Nat) (w' : World) (next : Option Addr × Nat × Nat → World → Prop) ↦
  br (decide ((↑(Prod.fst (Prod.snd s_1)) : Int) ≤ i))
  (∃ (e : TypeId),
  ∃ (l : List Value),
  BuildS Go.Proofs.Try.prog (69 : Nat) (1 : Nat) [((0 : Nat), Value.agg (List.toArray (bigL Go.Proofs.Try.prog (76 : Nat) [])))] e l ∧
  ∀ (b : Nat) (w1 : World),
  New w' (Obj.cells (List.toArray l) e) b w1 →
  ∃ (a : Option Addr),
  ∃ (n : Nat),
  ∃ (m : Nat),
  ∃ (w1_1 : World),
  App Go.Proofs.Try.prog #[(69 : Nat), (69 : Nat)] (69 : Nat) w1
  (Value.slice (Prod.fst s_1) (Prod.fst (Prod.snd s_1)) (Prod.snd (Prod.snd s_1)))
  (Value.slice (some (Addr.mk b (0 : Nat) none)) (1 : Nat) (1 : Nat)) (Value.slice a n m) w1_1 ∧
  next (a, n, m) w1_1)
  (onP (Prod.fst s_1) fun (a : Addr) ↦
  ((0 : Int) ≤ i ∧ i < (↑(Prod.fst (Prod.snd s_1)) : Int)) ∧
  ((0 : Int) ≤ min (max i_1 (0 : Int)) (512 : Int) ∧ min (max i_1 (0 : Int)) (512 : Int) ≤ (↑(512 : Nat) : Int)) ∧
  onP f fun (a_4 : Addr) ↦
  ∃ (a_5 : Option Addr),
  ∃ (l : Nat),
  ∃ (c : Nat),
  Ld Go.Proofs.Try.prog (69 : Nat) (World.drew w') a_4 (Value.slice a_5 l c) ∧
  onP a_5 fun (a_6 : Addr) ↦
  ((0 : Int) ≤ i ∧ i < (↑l : Int)) ∧
  ∃ (n : Int),
  ∃ (w1 : World),
  Cpy Go.Proofs.Try.prog #[(28 : Nat), (28 : Nat)] (3 : Nat) (World.drew w')
  (Value.slice (some (Addr.add a (Int.toNat i * (512 : Nat))))
  (Int.toNat (min (max i_1 (0 : Int)) (512 : Int))) (512 : Nat))
  (Value.slice (some (Addr.add a_6 (Int.toNat i * (512 : Nat)))) (512 : Nat) (512 : Nat))
  (Value.int IntKind.i64 n) w1 ∧
  inR IntKind.i64 (Prod.snd s + (1 : Int)) ∧
  next_1 ((Prod.fst s_1, Prod.fst (Prod.snd s_1), Prod.snd (Prod.snd s_1)), Prod.snd s + (1 : Int)) w1))
  (Prod.fst (Prod.fst s), Prod.fst (Prod.snd (Prod.fst s)), Prod.snd (Prod.snd (Prod.fst s))) w'))
  (CallV Go.Proofs.Try.prog (54 : Nat) [Value.slice (Prod.fst (Prod.fst s)) (Prod.fst (Prod.snd (Prod.fst s))) (Prod.snd (Prod.snd (Prod.fst s)))] w'
  fun (e : Ending) (w' : World) ↦
  ∃ (a : Option Addr),
  ∃ (l : Nat),
  ∃ (c : Nat),
  e = Ending.returned (Value.slice a l c) ∧
  ∀ (b : Nat) (w1 : World),
  New w' (Obj.map #[] (0 : Nat)) b w1 →
  ∀ (b_1 : Nat) (w1_1 : World),
  New w1
  (Obj.cells
  #[Value.slice a l c, Value.slice (Prod.fst (Prod.fst s)) (Prod.fst (Prod.snd (Prod.fst s))) (Prod.snd (Prod.snd (Prod.fst s))),
  Value.map (some b)]
  (71 : Nat))
  b_1 w1_1 →
  R (Ending.returned (Value.pointer (some (Addr.mk b_1 (0 : Nat) none)))) w1_1))
  ((a, l, c), (0 : Int)) w'
theorem found.eq (f : Option Addr) (next : Value) (w : World) (R : Ending → World → Prop) : bodyV Go.Proofs.Try.prog found.an Go.Proofs.Try.f39 [.pointer f, next] w R = found.vc f next w R := by kernel_rfl
theorem found.ok (f : Option Addr) (next : Value) (w : World) (R : Ending → World → Prop) (h : found.vc f next w R) : Calls Go.Proofs.Try.prog 39 #[.pointer f, next] w R :=
  calls_of_bodyV noNum (an := found.an) (args := [.pointer f, next]) Go.Proofs.Try.func39 (by kernel_rfl) ((found.eq f next w R).mpr h)

/-- (*incunable/redo.Log).Reset -/
def lreset.an : An := { wraps := [], loops := [], joins := [], ranges := [] }
def lreset.vc (l : Option Addr) (alla : Option Addr) (alln : Nat) (allc : Nat) (w : World) (R : Ending → World → Prop) : Prop :=
  CallV Go.Proofs.Try.prog (58 : Nat) [Value.slice alla alln allc, Value.func (Fn.func (59 : Nat)) #[] #[]] w fun (e : Ending) (w' : World) ↦
  ∃ (b : Bool),
  e = Ending.returned (Value.bool b) ∧
  br b (R (Ending.returned (Value.int IntKind.i64 (101 : Int))) w')
  (onP l fun (a : Addr) ↦
  ∃ (i : Int),
  Ld Go.Proofs.Try.prog (26 : Nat) w' (Addr.add a (7 : Nat)) (Value.int IntKind.i64 i) ∧
  br (!decide (i = (0 : Int)))
  (onP l fun (a : Addr) ↦ ∃ (i : Int), Ld Go.Proofs.Try.prog (26 : Nat) w' (Addr.add a (7 : Nat)) (Value.int IntKind.i64 i) ∧ R (Ending.returned (Value.int IntKind.i64 i)) w')
  (CallV Go.Proofs.Try.prog (37 : Nat) [Value.pointer l, Value.slice alla alln allc] w' fun (e : Ending) (w' : World) ↦
  ∃ (i : Int),
  e = Ending.returned (Value.int IntKind.i64 i) ∧
  br (!decide (i = (0 : Int)))
  (CallV Go.Proofs.Try.prog (46 : Nat) [Value.pointer l, Value.int IntKind.i64 i] w' fun (e : Ending) (w' : World) ↦
  ∃ (i : Int), e = Ending.returned (Value.int IntKind.i64 i) ∧ R (Ending.returned (Value.int IntKind.i64 i)) w')
  (R (Ending.returned (Value.int IntKind.i64 (0 : Int))) w')))
theorem lreset.eq (l : Option Addr) (alla : Option Addr) (alln : Nat) (allc : Nat) (w : World) (R : Ending → World → Prop) : bodyV Go.Proofs.Try.prog lreset.an Go.Proofs.Try.f41 [.pointer l, .slice alla alln allc] w R = lreset.vc l alla alln allc w R := by kernel_rfl
theorem lreset.ok (l : Option Addr) (alla : Option Addr) (alln : Nat) (allc : Nat) (w : World) (R : Ending → World → Prop) (h : lreset.vc l alla alln allc w R) : Calls Go.Proofs.Try.prog 41 #[.pointer l, .slice alla alln allc] w R :=
  calls_of_bodyV noNum (an := lreset.an) (args := [.pointer l, .slice alla alln allc]) Go.Proofs.Try.func41 (by kernel_rfl) ((lreset.eq l alla alln allc w R).mpr h)

/-- slices.Clone[[]string,string] -/
def cloneT.an : An := { wraps := [], loops := [], joins := [], ranges := [] }
def cloneT.vc (sa : Option Addr) (sn : Nat) (sc : Nat) (w : World) (R : Ending → World → Prop) : Prop :=
  ∃ (b : Bool),
  Eqv Go.Proofs.Try.prog BinOp.eql (49 : Nat) (Operand.tmp (3 : Nat)) (Operand.const (Value.slice none (0 : Nat) (0 : Nat))) w (Value.slice sa sn sc) (Value.slice none (0 : Nat) (0 : Nat)) b ∧
  br b (R (Ending.returned (Value.slice none (0 : Nat) (0 : Nat))) w)
  (∀ (b : Nat) (w1 : World),
  New w (Obj.cells #[] (9 : Nat)) b w1 →
  ∃ (a : Option Addr),
  ∃ (n : Nat),
  ∃ (m : Nat),
  ∃ (w1_1 : World),
  App Go.Proofs.Try.prog #[(49 : Nat), (49 : Nat)] (49 : Nat) w1 (Value.slice (some (Addr.mk b (0 : Nat) none)) (0 : Nat) (0 : Nat)) (Value.slice sa sn sc) (Value.slice a n m) w1_1 ∧
  R (Ending.returned (Value.slice a n m)) w1_1)
theorem cloneT.eq (sa : Option Addr) (sn : Nat) (sc : Nat) (w : World) (R : Ending → World → Prop) : bodyV Go.Proofs.Try.prog cloneT.an Go.Proofs.Try.f42 [.slice sa sn sc] w R = cloneT.vc sa sn sc w R := by kernel_rfl
theorem cloneT.ok (sa : Option Addr) (sn : Nat) (sc : Nat) (w : World) (R : Ending → World → Prop) (h : cloneT.vc sa sn sc w R) : Calls Go.Proofs.Try.prog 42 #[.slice sa sn sc] w R :=
  calls_of_bodyV noNum (an := cloneT.an) (args := [.slice sa sn sc]) Go.Proofs.Try.func42 (by kernel_rfl) ((cloneT.eq sa sn sc w R).mpr h)

/-- incunable/redo.framed -/
def framed.an : An := { wraps := [], loops := [], joins := [], ranges := [] }
def framed.vc (ba : Option Addr) (bn : Nat) (bc : Nat) (s : ByteArray) (w : World) (R : Ending → World → Prop) : Prop :=
  ∀ (b : Nat) (w1 : World),
  New w (Obj.cells #[Value.int IntKind.u8 (0 : Int), Value.int IntKind.u8 (0 : Int), Value.int IntKind.u8 (0 : Int), Value.int IntKind.u8 (0 : Int)] (107 : Nat)) b w1 →
  CallV Go.Proofs.Try.prog (60 : Nat) [Value.slice (some (Addr.mk b (0 : Nat) none)) (4 : Nat) (4 : Nat), Value.int IntKind.u32 (IntKind.wrap IntKind.u32 (↑(ByteArray.size s) : Int))] w1
  fun (e : Ending) (w' : World) ↦
  e = Ending.returned (Value.tuple #[]) ∧
  ∃ (a : Option Addr),
  ∃ (n : Nat),
  ∃ (m : Nat),
  ∃ (w1 : World),
  App Go.Proofs.Try.prog #[(28 : Nat), (28 : Nat)] (28 : Nat) w' (Value.slice ba bn bc) (Value.slice (some (Addr.mk b (0 : Nat) none)) (4 : Nat) (4 : Nat)) (Value.slice a n m) w1 ∧
  ∃ (a_1 : Option Addr),
  ∃ (n_1 : Nat),
  ∃ (m_1 : Nat),
  ∃ (w1_1 : World),
  App Go.Proofs.Try.prog #[(28 : Nat), (9 : Nat)] (28 : Nat) w1 (Value.slice a n m) (Value.string s) (Value.slice a_1 n_1 m_1) w1_1 ∧
  R (Ending.returned (Value.slice a_1 n_1 m_1)) w1_1
theorem framed.eq (ba : Option Addr) (bn : Nat) (bc : Nat) (s : ByteArray) (w : World) (R : Ending → World → Prop) : bodyV Go.Proofs.Try.prog framed.an Go.Proofs.Try.f43 [.slice ba bn bc, .string s] w R = framed.vc ba bn bc s w R := by kernel_rfl
theorem framed.ok (ba : Option Addr) (bn : Nat) (bc : Nat) (s : ByteArray) (w : World) (R : Ending → World → Prop) (h : framed.vc ba bn bc s w R) : Calls Go.Proofs.Try.prog 43 #[.slice ba bn bc, .string s] w R :=
  calls_of_bodyV noNum (an := framed.an) (args := [.slice ba bn bc, .string s]) Go.Proofs.Try.func43 (by kernel_rfl) ((framed.eq ba bn bc s w R).mpr h)

/-- (*incunable/redo.Log).write -/
def lwrite.an : An := { wraps := [], loops := [(2, [(9, .inl .i64)])], joins := [], ranges := [] }
def lwrite.vc (l : Option Addr) (name : ByteArray) (ba : Option Addr) (bn : Nat) (bc : Nat) (from_ : Int) (w : World) (R : Ending → World → Prop) : Prop :=
  (512 : Int) ≠ (0 : Int) ∧
  inR IntKind.i64 (Int.tdiv from_ (512 : Int)) ∧
  inR IntKind.i64 (Int.tdiv from_ (512 : Int) * (512 : Int)) ∧
  LoopP
  (fun (s : Int) (w' : World) (next : Int → World → Prop) ↦
  br (decide (s < (↑bn : Int)))
  (inR IntKind.i64 (s + (512 : Int)) ∧
  onP l fun (a : Addr) ↦
  ∃ (p : Option Addr),
  Ld Go.Proofs.Try.prog (23 : Nat) (World.drew w') a (Value.pointer p) ∧
  (512 : Int) ≠ (0 : Int) ∧
  inR IntKind.i64 (Int.tdiv s (512 : Int)) ∧
  inR IntKind.i64 ((2 : Int) + Int.tdiv s (512 : Int)) ∧
  ((0 : Int) ≤ s ∧
  s ≤ min (s + (512 : Int)) (↑bn : Int) ∧ min (s + (512 : Int)) (↑bn : Int) ≤ min (s + (512 : Int)) (↑bn : Int) ∧ min (s + (512 : Int)) (↑bn : Int) ≤ (↑bc : Int)) ∧
  CallV Go.Proofs.Try.prog (10 : Nat)
  [Value.pointer p, Value.string name, Value.int IntKind.i64 ((2 : Int) + Int.tdiv s (512 : Int)),
  Value.slice (slA ba (Int.toNat (min (s + (512 : Int)) (↑bn : Int))) (Int.toNat s) (1 : Nat)) (Int.toNat (min (s + (512 : Int)) (↑bn : Int)) - Int.toNat s)
  (Int.toNat (min (s + (512 : Int)) (↑bn : Int)) - Int.toNat s)]
  (World.drew w') fun (e : Ending) (w' : World) ↦
  ∃ (i : Int),
  e = Ending.returned (Value.int IntKind.i64 i) ∧
  br (!decide (i = (0 : Int))) (R (Ending.returned (Value.int IntKind.i64 i)) w') (inR IntKind.i64 (s + (512 : Int)) ∧ next (s + (512 : Int)) w'))
  (R (Ending.returned (Value.int IntKind.i64 (0 : Int))) w'))
  (Int.tdiv from_ (512 : Int) * (512 : Int)) w
theorem lwrite.eq (l : Option Addr) (name : ByteArray) (ba : Option Addr) (bn : Nat) (bc : Nat) (from_ : Int) (w : World) (R : Ending → World → Prop) : bodyV Go.Proofs.Try.prog lwrite.an Go.Proofs.Try.f44 [.pointer l, .string name, .slice ba bn bc, .int .i64 from_] w R = lwrite.vc l name ba bn bc from_ w R := by kernel_rfl
theorem lwrite.ok (l : Option Addr) (name : ByteArray) (ba : Option Addr) (bn : Nat) (bc : Nat) (from_ : Int) (w : World) (R : Ending → World → Prop) (h : lwrite.vc l name ba bn bc from_ w R) : Calls Go.Proofs.Try.prog 44 #[.pointer l, .string name, .slice ba bn bc, .int .i64 from_] w R :=
  calls_of_bodyV noNum (an := lwrite.an) (args := [.pointer l, .string name, .slice ba bn bc, .int .i64 from_]) Go.Proofs.Try.func44 (by kernel_rfl) ((lwrite.eq l name ba bn bc from_ w R).mpr h)

/-- (*incunable/redo.Log).seal -/
def lseal.an : An := { wraps := [], loops := [], joins := [], ranges := [] }
def lseal.vc (l : Option Addr) (name : ByteArray) (mark : Int) (firm : Int) (w : World) (R : Ending → World → Prop) : Prop :=
  ∀ (b : Nat) (w1 : World),
  New w (Obj.cells (List.toArray (zl Go.Proofs.Try.prog (75 : Nat))) (75 : Nat)) b w1 →
  ((0 : Int) ≤ (8 : Int) ∧ (8 : Int) ≤ (↑(512 : Nat) : Int)) ∧
  CallV Go.Proofs.Try.prog (61 : Nat) [Value.slice (some (Addr.mk b (0 : Nat) none)) (8 : Nat) (512 : Nat), Value.int IntKind.u64 mark] w1 fun (e : Ending) (w' : World) ↦
  e = Ending.returned (Value.tuple #[]) ∧
  ((0 : Int) ≤ (8 : Int) ∧ (8 : Int) ≤ (16 : Int) ∧ (16 : Int) ≤ (↑(512 : Nat) : Int)) ∧
  CallV Go.Proofs.Try.prog (61 : Nat) [Value.slice (some (Addr.mk b (8 : Nat) none)) (8 : Nat) (504 : Nat), Value.int IntKind.u64 (IntKind.wrap IntKind.u64 firm)] w'
  fun (e : Ending) (w' : World) ↦
  e = Ending.returned (Value.tuple #[]) ∧
  ((0 : Int) ≤ (504 : Int) ∧ (504 : Int) ≤ (↑(512 : Nat) : Int)) ∧
  CallV Go.Proofs.Try.prog (61 : Nat) [Value.slice (some (Addr.mk b (504 : Nat) none)) (8 : Nat) (8 : Nat), Value.int IntKind.u64 mark] w' fun (e : Ending) (w' : World) ↦
  e = Ending.returned (Value.tuple #[]) ∧
  onP l fun (a : Addr) ↦
  ∃ (p : Option Addr),
  Ld Go.Proofs.Try.prog (23 : Nat) w' a (Value.pointer p) ∧
  CallV Go.Proofs.Try.prog (62 : Nat) [Value.pointer p, Value.string name] w' fun (e : Ending) (w' : World) ↦
  ∃ (i : Int),
  e = Ending.returned (Value.int IntKind.i64 i) ∧
  br (decide (i = (0 : Int)))
  (onP l fun (a : Addr) ↦
  ∃ (p : Option Addr),
  Ld Go.Proofs.Try.prog (23 : Nat) (World.drew w') a (Value.pointer p) ∧
  (2 : Int) ≠ (0 : Int) ∧
  CallV Go.Proofs.Try.prog (10 : Nat)
  [Value.pointer p, Value.string name, Value.int IntKind.i64 (IntKind.wrap IntKind.i64 (Int.tmod mark (2 : Int))),
  Value.slice (some (Addr.mk b (0 : Nat) none)) (512 : Nat) (512 : Nat)]
  (World.drew w') fun (e : Ending) (w' : World) ↦
  ∃ (i : Int),
  e = Ending.returned (Value.int IntKind.i64 i) ∧
  br (decide (i = (0 : Int)))
  (onP l fun (a : Addr) ↦
  ∃ (p : Option Addr),
  Ld Go.Proofs.Try.prog (23 : Nat) w' a (Value.pointer p) ∧
  CallV Go.Proofs.Try.prog (62 : Nat) [Value.pointer p, Value.string name] w' fun (e : Ending) (w' : World) ↦
  ∃ (i : Int), e = Ending.returned (Value.int IntKind.i64 i) ∧ R (Ending.returned (Value.int IntKind.i64 i)) w')
  (R (Ending.returned (Value.int IntKind.i64 i)) w'))
  (br (decide (i = (0 : Int)))
  (onP l fun (a : Addr) ↦
  ∃ (p : Option Addr),
  Ld Go.Proofs.Try.prog (23 : Nat) w' a (Value.pointer p) ∧
  CallV Go.Proofs.Try.prog (62 : Nat) [Value.pointer p, Value.string name] w' fun (e : Ending) (w' : World) ↦
  ∃ (i : Int), e = Ending.returned (Value.int IntKind.i64 i) ∧ R (Ending.returned (Value.int IntKind.i64 i)) w')
  (R (Ending.returned (Value.int IntKind.i64 i)) w'))
theorem lseal.eq (l : Option Addr) (name : ByteArray) (mark : Int) (firm : Int) (w : World) (R : Ending → World → Prop) : bodyV Go.Proofs.Try.prog lseal.an Go.Proofs.Try.f45 [.pointer l, .string name, .int .u64 mark, .int .i64 firm] w R = lseal.vc l name mark firm w R := by kernel_rfl
theorem lseal.ok (l : Option Addr) (name : ByteArray) (mark : Int) (firm : Int) (w : World) (R : Ending → World → Prop) (h : lseal.vc l name mark firm w R) : Calls Go.Proofs.Try.prog 45 #[.pointer l, .string name, .int .u64 mark, .int .i64 firm] w R :=
  calls_of_bodyV noNum (an := lseal.an) (args := [.pointer l, .string name, .int .u64 mark, .int .i64 firm]) Go.Proofs.Try.func45 (by kernel_rfl) ((lseal.eq l name mark firm w R).mpr h)

/-- (*incunable/redo.Log).stuck -/
def stuck.an : An := { wraps := [], loops := [], joins := [], ranges := [] }
def stuck.vc (l : Option Addr) (e : Int) (w : World) (R : Ending → World → Prop) : Prop :=
  onP l fun (a : Addr) ↦
  ∃ (i : Int),
  Ld Go.Proofs.Try.prog (26 : Nat) w (Addr.add a (7 : Nat)) (Value.int IntKind.i64 i) ∧
  br (decide (i = (0 : Int)))
  (onP l fun (a : Addr) ↦
  ∃ (w1 : World),
  St Go.Proofs.Try.prog (26 : Nat) w (Addr.add a (7 : Nat)) (Value.int IntKind.i64 e) w1 ∧
  onP l fun (a : Addr) ↦ ∃ (i : Int), Ld Go.Proofs.Try.prog (26 : Nat) w1 (Addr.add a (7 : Nat)) (Value.int IntKind.i64 i) ∧ R (Ending.returned (Value.int IntKind.i64 i)) w1)
  (onP l fun (a : Addr) ↦ ∃ (i : Int), Ld Go.Proofs.Try.prog (26 : Nat) w (Addr.add a (7 : Nat)) (Value.int IntKind.i64 i) ∧ R (Ending.returned (Value.int IntKind.i64 i)) w)
theorem stuck.eq (l : Option Addr) (e : Int) (w : World) (R : Ending → World → Prop) : bodyV Go.Proofs.Try.prog stuck.an Go.Proofs.Try.f46 [.pointer l, .int .i64 e] w R = stuck.vc l e w R := by kernel_rfl
theorem stuck.ok (l : Option Addr) (e : Int) (w : World) (R : Ending → World → Prop) (h : stuck.vc l e w R) : Calls Go.Proofs.Try.prog 46 #[.pointer l, .int .i64 e] w R :=
  calls_of_bodyV noNum (an := stuck.an) (args := [.pointer l, .int .i64 e]) Go.Proofs.Try.func46 (by kernel_rfl) ((stuck.eq l e w R).mpr h)

/-- (*incunable/vault.Disk).dies -/
def dies.an : An := { wraps := [], loops := [], joins := [], ranges := [] }
def dies.vc (d : Option Addr) (w : World) (R : Ending → World → Prop) : Prop :=
  onP d fun (a : Addr) ↦
  ∃ (i : Int),
  Ld Go.Proofs.Try.prog (3 : Nat) w (Addr.add a (5 : Nat)) (Value.int IntKind.i64 i) ∧
  br (decide ((0 : Int) < i))
  (onP d fun (a : Addr) ↦
  ∃ (i : Int),
  Ld Go.Proofs.Try.prog (3 : Nat) w (Addr.add a (5 : Nat)) (Value.int IntKind.i64 i) ∧
  inR IntKind.i64 (i - (1 : Int)) ∧
  onP d fun (a : Addr) ↦
  ∃ (w1 : World),
  St Go.Proofs.Try.prog (3 : Nat) w (Addr.add a (5 : Nat)) (Value.int IntKind.i64 (i - (1 : Int))) w1 ∧
  onP d fun (a : Addr) ↦
  ∃ (i : Int),
  Ld Go.Proofs.Try.prog (3 : Nat) w1 (Addr.add a (5 : Nat)) (Value.int IntKind.i64 i) ∧
  onP d fun (a : Addr) ↦
  ∃ (w1_1 : World),
  St Go.Proofs.Try.prog (4 : Nat) w1 (Addr.add a (7 : Nat)) (Value.bool (decide (i = (0 : Int)))) w1_1 ∧
  onP d fun (a : Addr) ↦ ∃ (b : Bool), Ld Go.Proofs.Try.prog (4 : Nat) w1_1 (Addr.add a (7 : Nat)) (Value.bool b) ∧ R (Ending.returned (Value.bool b)) w1_1)
  (onP d fun (a : Addr) ↦ ∃ (b : Bool), Ld Go.Proofs.Try.prog (4 : Nat) w (Addr.add a (7 : Nat)) (Value.bool b) ∧ R (Ending.returned (Value.bool b)) w)
theorem dies.eq (d : Option Addr) (w : World) (R : Ending → World → Prop) : bodyV Go.Proofs.Try.prog dies.an Go.Proofs.Try.f47 [.pointer d] w R = dies.vc d w R := by kernel_rfl
theorem dies.ok (d : Option Addr) (w : World) (R : Ending → World → Prop) (h : dies.vc d w R) : Calls Go.Proofs.Try.prog 47 #[.pointer d] w R :=
  calls_of_bodyV noNum (an := dies.an) (args := [.pointer d]) Go.Proofs.Try.func47 (by kernel_rfl) ((dies.eq d w R).mpr h)

/-- (*incunable/redo.Log).look -/
def look.an : An := { wraps := [], loops := [], joins := [], ranges := [] }
def look.vc (l : Option Addr) (n : Int) (w : World) (R : Ending → World → Prop) : Prop :=
  onP l fun (a : Addr) ↦
  ∃ (p : Option Addr),
  Ld Go.Proofs.Try.prog (23 : Nat) (World.drew w) a (Value.pointer p) ∧
  onP l fun (a : Addr) ↦
  ∃ (s : ByteArray),
  Ld Go.Proofs.Try.prog (9 : Nat) (World.drew w) (Addr.add a (1 : Nat)) (Value.string s) ∧
  CallV Go.Proofs.Try.prog (49 : Nat) [Value.pointer p, Value.string s, Value.int IntKind.i64 n] (World.drew w) fun (e : Ending) (w' : World) ↦
  ∃ (a : Option Addr),
  ∃ (l : Nat),
  ∃ (c : Nat),
  ∃ (i : Int),
  e = Ending.returned (Value.tuple #[Value.slice a l c, Value.int IntKind.i64 i]) ∧
  br (!decide (i = (0 : Int))) (R (Ending.returned (Value.tuple #[Value.int IntKind.u64 (0 : Int), Value.int IntKind.u64 (0 : Int), Value.bool false])) (World.drew w'))
  (((0 : Int) ≤ (8 : Int) ∧ (8 : Int) ≤ (↑c : Int)) ∧
  (8 : Nat) ≤ Int.toNat (8 : Int) ∧
  ∃ (cs : List Value),
  (onP a fun (a : Addr) ↦ Ld Go.Proofs.Try.prog (112 : Nat) (World.drew w') a (Value.agg (List.toArray cs))) ∧
  ((0 : Int) ≤ (504 : Int) ∧ (504 : Int) ≤ (↑l : Int)) ∧
  (8 : Nat) ≤ l - Int.toNat (504 : Int) ∧
  ∃ (cs_1 : List Value),
  (onP (slA a c (Int.toNat (504 : Int)) (1 : Nat)) fun (a : Addr) ↦ Ld Go.Proofs.Try.prog (112 : Nat) (World.drew w') a (Value.agg (List.toArray cs_1))) ∧
  ∃ (b : Bool),
  Eqv Go.Proofs.Try.prog BinOp.neq (112 : Nat) (Operand.tmp (28 : Nat)) (Operand.tmp (32 : Nat)) (World.drew w') (Value.agg (List.toArray cs))
  (Value.agg (List.toArray cs_1)) b ∧
  br b (R (Ending.returned (Value.tuple #[Value.int IntKind.u64 (0 : Int), Value.int IntKind.u64 (0 : Int), Value.bool false])) (World.drew w'))
  (((0 : Int) ≤ (8 : Int) ∧ (8 : Int) ≤ (↑c : Int)) ∧
  ((0 : Int) ≤ (8 : Int) ∧ (8 : Int) ≤ (16 : Int) ∧ (16 : Int) ≤ (↑c : Int)) ∧
  CallV Go.Proofs.Try.prog (63 : Nat) [Value.slice a (8 : Nat) c] (World.drew (World.drew w')) fun (e : Ending) (w' : World) ↦
  ∃ (i : Int),
  e = Ending.returned (Value.int IntKind.u64 i) ∧
  CallV Go.Proofs.Try.prog (63 : Nat) [Value.slice (slA a c (Int.toNat (8 : Int)) (1 : Nat)) (8 : Nat) (c - Int.toNat (8 : Int))] w'
  fun (e : Ending) (w' : World) ↦
  ∃ (i_1 : Int),
  e = Ending.returned (Value.int IntKind.u64 i_1) ∧
  R (Ending.returned (Value.tuple #[Value.int IntKind.u64 i, Value.int IntKind.u64 i_1, Value.bool true])) w'))
theorem look.eq (l : Option Addr) (n : Int) (w : World) (R : Ending → World → Prop) : bodyV Go.Proofs.Try.prog look.an Go.Proofs.Try.f48 [.pointer l, .int .i64 n] w R = look.vc l n w R := by kernel_rfl
theorem look.ok (l : Option Addr) (n : Int) (w : World) (R : Ending → World → Prop) (h : look.vc l n w R) : Calls Go.Proofs.Try.prog 48 #[.pointer l, .int .i64 n] w R :=
  calls_of_bodyV noNum (an := look.an) (args := [.pointer l, .int .i64 n]) Go.Proofs.Try.func48 (by kernel_rfl) ((look.eq l n w R).mpr h)

/-- (*incunable/vault.Disk).Read -/
def read.an : An := { wraps := [], loops := [], joins := [], ranges := [] }
def read.vc (d : Option Addr) (name : ByteArray) (n : Int) (w : World) (R : Ending → World → Prop) : Prop :=
  CallV Go.Proofs.Try.prog (30 : Nat) [Value.pointer d, Value.string name] w fun (e : Ending) (w' : World) ↦
  ∃ (p : Option Addr),
  e = Ending.returned (Value.pointer p) ∧
  onP d fun (a : Addr) ↦
  ∃ (b : Bool),
  Ld Go.Proofs.Try.prog (4 : Nat) w' (Addr.add a (7 : Nat)) (Value.bool b) ∧
  br b (R (Ending.returned (Value.tuple #[Value.slice none (0 : Nat) (0 : Nat), Value.int IntKind.i64 (93 : Int)])) w')
  (∃ (b : Bool),
  Eqv Go.Proofs.Try.prog BinOp.eql (67 : Nat) (Operand.tmp (19 : Nat)) (Operand.const (Value.pointer none)) w' (Value.pointer p) (Value.pointer none) b ∧
  br b (R (Ending.returned (Value.tuple #[Value.slice none (0 : Nat) (0 : Nat), Value.int IntKind.i64 (90 : Int)])) w')
  (br (decide (n < (0 : Int))) (R (Ending.returned (Value.tuple #[Value.slice none (0 : Nat) (0 : Nat), Value.int IntKind.i64 (91 : Int)])) w')
  (onP p fun (a : Addr) ↦
  ∃ (a_1 : Option Addr),
  ∃ (l : Nat),
  ∃ (c : Nat),
  Ld Go.Proofs.Try.prog (69 : Nat) w' a (Value.slice a_1 l c) ∧
  br (decide ((↑l : Int) ≤ n)) (R (Ending.returned (Value.tuple #[Value.slice none (0 : Nat) (0 : Nat), Value.int IntKind.i64 (91 : Int)])) w')
  (onP p fun (a : Addr) ↦
  ∃ (a_2 : Option Addr),
  ∃ (l : Nat),
  ∃ (c : Nat),
  Ld Go.Proofs.Try.prog (69 : Nat) w' a (Value.slice a_2 l c) ∧
  onP a_2 fun (a : Addr) ↦
  ((0 : Int) ≤ n ∧ n < (↑l : Int)) ∧
  ∃ (cs : List Value),
  Ld Go.Proofs.Try.prog (76 : Nat) w' (Addr.add a (Int.toNat n * (512 : Nat))) (Value.agg (List.toArray cs)) ∧
  ∀ (b : Nat) (w1 : World),
  New w' (Obj.cells (List.toArray (zl Go.Proofs.Try.prog (76 : Nat))) (76 : Nat)) b w1 →
  ∃ (w1_1 : World),
  St Go.Proofs.Try.prog (76 : Nat) w1 (Addr.mk b (0 : Nat) none) (Value.agg (List.toArray cs)) w1_1 ∧
  R (Ending.returned (Value.tuple #[Value.slice (some (Addr.mk b (0 : Nat) none)) (512 : Nat) (512 : Nat), Value.int IntKind.i64 (0 : Int)]))
  w1_1))))
theorem read.eq (d : Option Addr) (name : ByteArray) (n : Int) (w : World) (R : Ending → World → Prop) : bodyV Go.Proofs.Try.prog read.an Go.Proofs.Try.f49 [.pointer d, .string name, .int .i64 n] w R = read.vc d name n w R := by kernel_rfl
theorem read.ok (d : Option Addr) (name : ByteArray) (n : Int) (w : World) (R : Ending → World → Prop) (h : read.vc d name n w R) : Calls Go.Proofs.Try.prog 49 #[.pointer d, .string name, .int .i64 n] w R :=
  calls_of_bodyV noNum (an := read.an) (args := [.pointer d, .string name, .int .i64 n]) Go.Proofs.Try.func49 (by kernel_rfl) ((read.eq d name n w R).mpr h)

/-- incunable/redo.records -/
def records.an : An := { wraps := [], loops := [(2, [(0, .inr 3), (4, .inr 3)])], joins := [], ranges := [] }
def records.vc (ba : Option Addr) (bn : Nat) (bc : Nat) (w : World) (R : Ending → World → Prop) : Prop :=
  LoopP
  (fun (s : (Option Addr × Nat × Nat) × Option Addr × Nat × Nat) (w' : World) (next : (Option Addr × Nat × Nat) × Option Addr × Nat × Nat → World → Prop) ↦
  br (decide ((0 : Int) < (↑(Prod.fst (Prod.snd (Prod.fst s))) : Int)))
  (br (decide ((↑(Prod.fst (Prod.snd (Prod.fst s))) : Int) < (4 : Int))) (R (Ending.returned (Value.tuple #[Value.slice none (0 : Nat) (0 : Nat), Value.bool false])) w')
  (((0 : Int) ≤ (4 : Int) ∧ (4 : Int) ≤ (↑(Prod.snd (Prod.snd (Prod.fst s))) : Int)) ∧
  CallV Go.Proofs.Try.prog (63 : Nat) [Value.slice (Prod.fst (Prod.fst s)) (4 : Nat) (Prod.snd (Prod.snd (Prod.fst s)))] w' fun (e : Ending) (w' : World) ↦
  ∃ (i : Int),
  e = Ending.returned (Value.int IntKind.u64 i) ∧
  br (decide ((65536 : Int) < IntKind.wrap IntKind.i64 i)) (R (Ending.returned (Value.tuple #[Value.slice none (0 : Nat) (0 : Nat), Value.bool false])) w')
  (inR IntKind.i64 ((↑(Prod.fst (Prod.snd (Prod.fst s))) : Int) - (4 : Int)) ∧
  br (decide ((↑(Prod.fst (Prod.snd (Prod.fst s))) : Int) - (4 : Int) < IntKind.wrap IntKind.i64 i))
  (R (Ending.returned (Value.tuple #[Value.slice none (0 : Nat) (0 : Nat), Value.bool false])) w')
  (inR IntKind.i64 ((4 : Int) + IntKind.wrap IntKind.i64 i) ∧
  ((0 : Int) ≤ (4 : Int) ∧ (4 : Int) ≤ (4 : Int) + IntKind.wrap IntKind.i64 i ∧ (4 : Int) + IntKind.wrap IntKind.i64 i ≤ (↑(Prod.snd (Prod.snd (Prod.fst s))) : Int)) ∧
  ∃ (s_1 : ByteArray),
  B2S Go.Proofs.Try.prog (28 : Nat) (9 : Nat) w'
  (Value.slice (slA (Prod.fst (Prod.fst s)) (Prod.snd (Prod.snd (Prod.fst s))) (Int.toNat (4 : Int)) (1 : Nat))
  (Int.toNat ((4 : Int) + IntKind.wrap IntKind.i64 i) - Int.toNat (4 : Int)) (Prod.snd (Prod.snd (Prod.fst s)) - Int.toNat (4 : Int)))
  (Value.string s_1) ∧
  ∀ (b : Nat) (w1 : World),
  New w' (Obj.cells #[Value.string s_1] (9 : Nat)) b w1 →
  ∃ (a : Option Addr),
  ∃ (n : Nat),
  ∃ (m : Nat),
  ∃ (w1_1 : World),
  App Go.Proofs.Try.prog #[(49 : Nat), (49 : Nat)] (49 : Nat) w1
  (Value.slice (Prod.fst (Prod.snd s)) (Prod.fst (Prod.snd (Prod.snd s))) (Prod.snd (Prod.snd (Prod.snd s))))
  (Value.slice (some (Addr.mk b (0 : Nat) none)) (1 : Nat) (1 : Nat)) (Value.slice a n m) w1_1 ∧
  inR IntKind.i64 ((4 : Int) + IntKind.wrap IntKind.i64 i) ∧
  ((0 : Int) ≤ (4 : Int) + IntKind.wrap IntKind.i64 i ∧ (4 : Int) + IntKind.wrap IntKind.i64 i ≤ (↑(Prod.fst (Prod.snd (Prod.fst s))) : Int)) ∧
  next
  ((slA (Prod.fst (Prod.fst s)) (Prod.snd (Prod.snd (Prod.fst s))) (Int.toNat ((4 : Int) + IntKind.wrap IntKind.i64 i)) (1 : Nat),
  Prod.fst (Prod.snd (Prod.fst s)) - Int.toNat ((4 : Int) + IntKind.wrap IntKind.i64 i),
  Prod.snd (Prod.snd (Prod.fst s)) - Int.toNat ((4 : Int) + IntKind.wrap IntKind.i64 i)),
  a, n, m)
  w1_1))))
  (R (Ending.returned (Value.tuple #[Value.slice (Prod.fst (Prod.snd s)) (Prod.fst (Prod.snd (Prod.snd s))) (Prod.snd (Prod.snd (Prod.snd s))), Value.bool true])) w'))
  ((ba, bn, bc), none, (0 : Nat), (0 : Nat)) w
theorem records.eq (ba : Option Addr) (bn : Nat) (bc : Nat) (w : World) (R : Ending → World → Prop) : bodyV Go.Proofs.Try.prog records.an Go.Proofs.Try.f50 [.slice ba bn bc] w R = records.vc ba bn bc w R := by kernel_rfl
theorem records.ok (ba : Option Addr) (bn : Nat) (bc : Nat) (w : World) (R : Ending → World → Prop) (h : records.vc ba bn bc w R) : Calls Go.Proofs.Try.prog 50 #[.slice ba bn bc] w R :=
  calls_of_bodyV noNum (an := records.an) (args := [.slice ba bn bc]) Go.Proofs.Try.func50 (by kernel_rfl) ((records.eq ba bn bc w R).mpr h)

/-- (*incunable/redo.Log).fill -/
def lfill.an : An := { wraps := [], loops := [(3, [(7, .inl .i64), (8, .inl .i64)])], joins := [], ranges := [] }
def lfill.vc (l : Option Addr) (name : ByteArray) (ba : Option Addr) (bn : Nat) (bc : Nat) (w : World) (R : Ending → World → Prop) : Prop :=
  onP l fun (a : Addr) ↦
  ∃ (p : Option Addr),
  Ld Go.Proofs.Try.prog (23 : Nat) w a (Value.pointer p) ∧
  CallV Go.Proofs.Try.prog (9 : Nat) [Value.pointer p, Value.string name] w fun (e : Ending) (w' : World) ↦
  ∃ (i : Int),
  e = Ending.returned (Value.int IntKind.i64 i) ∧
  LoopP
  (fun (s : Int × Int) (w' : World) (next : Int × Int → World → Prop) ↦
  br (decide (Prod.snd s < (2 : Int)))
  (br (decide (Prod.fst s = (0 : Int)))
  (onP l fun (a : Addr) ↦
  ∃ (p : Option Addr),
  Ld Go.Proofs.Try.prog (23 : Nat) w' a (Value.pointer p) ∧
  CallV Go.Proofs.Try.prog (10 : Nat) [Value.pointer p, Value.string name, Value.int IntKind.i64 (Prod.snd s), Value.slice none (0 : Nat) (0 : Nat)] w'
  fun (e : Ending) (w' : World) ↦ ∃ (i : Int), e = Ending.returned (Value.int IntKind.i64 i) ∧ inR IntKind.i64 (Prod.snd s + (1 : Int)) ∧ next (i, Prod.snd s + (1 : Int)) w')
  (br (decide (Prod.fst s = (0 : Int)))
  (CallV Go.Proofs.Try.prog (44 : Nat) [Value.pointer l, Value.string name, Value.slice ba bn bc, Value.int IntKind.i64 (0 : Int)] w' fun (e : Ending) (w' : World) ↦
  ∃ (i : Int),
  e = Ending.returned (Value.int IntKind.i64 i) ∧
  br (decide (i = (0 : Int)))
  (CallV Go.Proofs.Try.prog (45 : Nat) [Value.pointer l, Value.string name, Value.int IntKind.u64 (1 : Int), Value.int IntKind.i64 (↑bn : Int)] w'
  fun (e : Ending) (w' : World) ↦ ∃ (i : Int), e = Ending.returned (Value.int IntKind.i64 i) ∧ R (Ending.returned (Value.int IntKind.i64 i)) w')
  (R (Ending.returned (Value.int IntKind.i64 i)) w'))
  (br (decide (Prod.fst s = (0 : Int)))
  (CallV Go.Proofs.Try.prog (45 : Nat) [Value.pointer l, Value.string name, Value.int IntKind.u64 (1 : Int), Value.int IntKind.i64 (↑bn : Int)] w' fun (e : Ending) (w' : World) ↦
  ∃ (i : Int), e = Ending.returned (Value.int IntKind.i64 i) ∧ R (Ending.returned (Value.int IntKind.i64 i)) w')
  (R (Ending.returned (Value.int IntKind.i64 (Prod.fst s))) w'))))
  (br (decide (Prod.fst s = (0 : Int)))
  (CallV Go.Proofs.Try.prog (44 : Nat) [Value.pointer l, Value.string name, Value.slice ba bn bc, Value.int IntKind.i64 (0 : Int)] w' fun (e : Ending) (w' : World) ↦
  ∃ (i : Int),
  e = Ending.returned (Value.int IntKind.i64 i) ∧
  br (decide (i = (0 : Int)))
  (CallV Go.Proofs.Try.prog (45 : Nat) [Value.pointer l, Value.string name, Value.int IntKind.u64 (1 : Int), Value.int IntKind.i64 (↑bn : Int)] w'
  fun (e : Ending) (w' : World) ↦ ∃ (i : Int), e = Ending.returned (Value.int IntKind.i64 i) ∧ R (Ending.returned (Value.int IntKind.i64 i)) w')
  (R (Ending.returned (Value.int IntKind.i64 i)) w'))
  (br (decide (Prod.fst s = (0 : Int)))
  (CallV Go.Proofs.Try.prog (45 : Nat) [Value.pointer l, Value.string name, Value.int IntKind.u64 (1 : Int), Value.int IntKind.i64 (↑bn : Int)] w' fun (e : Ending) (w' : World) ↦
  ∃ (i : Int), e = Ending.returned (Value.int IntKind.i64 i) ∧ R (Ending.returned (Value.int IntKind.i64 i)) w')
  (R (Ending.returned (Value.int IntKind.i64 (Prod.fst s))) w'))))
  (i, (0 : Int)) w'
theorem lfill.eq (l : Option Addr) (name : ByteArray) (ba : Option Addr) (bn : Nat) (bc : Nat) (w : World) (R : Ending → World → Prop) : bodyV Go.Proofs.Try.prog lfill.an Go.Proofs.Try.f51 [.pointer l, .string name, .slice ba bn bc] w R = lfill.vc l name ba bn bc w R := by kernel_rfl
theorem lfill.ok (l : Option Addr) (name : ByteArray) (ba : Option Addr) (bn : Nat) (bc : Nat) (w : World) (R : Ending → World → Prop) (h : lfill.vc l name ba bn bc w R) : Calls Go.Proofs.Try.prog 51 #[.pointer l, .string name, .slice ba bn bc] w R :=
  calls_of_bodyV noNum (an := lfill.an) (args := [.pointer l, .string name, .slice ba bn bc]) Go.Proofs.Try.func51 (by kernel_rfl) ((lfill.eq l name ba bn bc w R).mpr h)

/-- (*incunable/vault.Disk).Rename -/
def rename.an : An := { wraps := [], loops := [], joins := [], ranges := [] }
def rename.vc (d : Option Addr) (from_ : ByteArray) (to_ : ByteArray) (w : World) (R : Ending → World → Prop) : Prop :=
  ∀ (b : Nat) (w1 : World),
  New w (Obj.cells #[Value.string from_] (9 : Nat)) b w1 →
  ∀ (b_1 : Nat) (w1_1 : World),
  New w1 (Obj.cells #[Value.string to_] (9 : Nat)) b_1 w1_1 →
  onP d fun (a : Addr) ↦
  ∃ (m : Option Nat),
  Ld Go.Proofs.Try.prog (59 : Nat) (World.drew w1_1) (Addr.add a (2 : Nat)) (Value.map m) ∧
  ∃ (s : ByteArray),
  Ld Go.Proofs.Try.prog (9 : Nat) (World.drew w1_1) (Addr.mk b (0 : Nat) none) (Value.string s) ∧
  ∃ (i : Int),
  ∃ (b_2 : Bool),
  Lk Go.Proofs.Try.prog (59 : Nat) true (World.drew w1_1) (Value.map m) (Value.string s) (Value.tuple #[Value.int IntKind.i64 i, Value.bool b_2]) ∧
  ∀ (b_3 : Nat) (w1 : World),
  New (World.drew w1_1) (Obj.cells #[Value.int IntKind.i64 (0 : Int)] (3 : Nat)) b_3 w1 →
  Lk Go.Proofs.Try.prog (59 : Nat) true w1 (Value.map m) (Value.string s) (Value.tuple #[Value.int IntKind.i64 i, Value.bool b_2]) ∧
  Ld Go.Proofs.Try.prog (9 : Nat) w1 (Addr.mk b (0 : Nat) none) (Value.string s) ∧
  Ld Go.Proofs.Try.prog (59 : Nat) w1 (Addr.add a (2 : Nat)) (Value.map m) ∧
  ∃ (w1_2 : World),
  St Go.Proofs.Try.prog (3 : Nat) w1 (Addr.mk b_3 (0 : Nat) none) (Value.int IntKind.i64 i) w1_2 ∧
  onP d fun (a : Addr) ↦
  ∃ (b_4 : Bool),
  Ld Go.Proofs.Try.prog (4 : Nat) w1_2 (Addr.add a (7 : Nat)) (Value.bool b_4) ∧
  br b_4 (R (Ending.returned (Value.int IntKind.i64 (93 : Int))) w1_2)
  (br (!b_2) (R (Ending.returned (Value.int IntKind.i64 (90 : Int))) w1_2)
  (∃ (s : ByteArray),
  Ld Go.Proofs.Try.prog (9 : Nat) w1_2 (Addr.mk b_1 (0 : Nat) none) (Value.string s) ∧
  CallV Go.Proofs.Try.prog (27 : Nat) [Value.string s] w1_2 fun (e : Ending) (w' : World) ↦
  ∃ (b_5 : Bool),
  e = Ending.returned (Value.bool b_5) ∧
  br (!b_5) (R (Ending.returned (Value.int IntKind.i64 (92 : Int))) w')
  (∃ (s : ByteArray),
  Ld Go.Proofs.Try.prog (9 : Nat) w' (Addr.mk b (0 : Nat) none) (Value.string s) ∧
  ∃ (s_1 : ByteArray),
  Ld Go.Proofs.Try.prog (9 : Nat) w' (Addr.mk b_1 (0 : Nat) none) (Value.string s_1) ∧
  br (decide (s = s_1)) (R (Ending.returned (Value.int IntKind.i64 (0 : Int))) w')
  (CallV Go.Proofs.Try.prog (28 : Nat)
  [Value.pointer d,
  Value.func (Fn.func (64 : Nat)) #[]
  #[Value.pointer (some (Addr.mk b (0 : Nat) none)), Value.pointer (some (Addr.mk b_3 (0 : Nat) none)),
  Value.pointer (some (Addr.mk b_1 (0 : Nat) none))]]
  w' fun (e : Ending) (w' : World) ↦
  ∃ (i : Int), e = Ending.returned (Value.int IntKind.i64 i) ∧ R (Ending.returned (Value.int IntKind.i64 i)) w'))))
theorem rename.eq (d : Option Addr) (from_ : ByteArray) (to_ : ByteArray) (w : World) (R : Ending → World → Prop) : bodyV Go.Proofs.Try.prog rename.an Go.Proofs.Try.f52 [.pointer d, .string from_, .string to_] w R = rename.vc d from_ to_ w R := by kernel_rfl
theorem rename.ok (d : Option Addr) (from_ : ByteArray) (to_ : ByteArray) (w : World) (R : Ending → World → Prop) (h : rename.vc d from_ to_ w R) : Calls Go.Proofs.Try.prog 52 #[.pointer d, .string from_, .string to_] w R :=
  calls_of_bodyV noNum (an := rename.an) (args := [.pointer d, .string from_, .string to_]) Go.Proofs.Try.func52 (by kernel_rfl) ((rename.eq d from_ to_ w R).mpr h)

/-- (*incunable/vault.Disk).SyncNames -/
def syncNames.an : An := { wraps := [], loops := [], joins := [], ranges := [] }
def syncNames.vc (d : Option Addr) (w : World) (R : Ending → World → Prop) : Prop :=
  onP d fun (a : Addr) ↦
  ∃ (b : Bool),
  Ld Go.Proofs.Try.prog (4 : Nat) w (Addr.add a (7 : Nat)) (Value.bool b) ∧
  br b (R (Ending.returned (Value.int IntKind.i64 (93 : Int))) w)
  (CallV Go.Proofs.Try.prog (47 : Nat) [Value.pointer d] w fun (e : Ending) (w' : World) ↦
  ∃ (b : Bool),
  e = Ending.returned (Value.bool b) ∧
  br b (R (Ending.returned (Value.int IntKind.i64 (93 : Int))) w')
  (onP d fun (a : Addr) ↦
  ∃ (m : Option Nat),
  Ld Go.Proofs.Try.prog (59 : Nat) w' (Addr.add a (2 : Nat)) (Value.map m) ∧
  CallV Go.Proofs.Try.prog (40 : Nat) [Value.map m] w' fun (e : Ending) (w' : World) ↦
  ∃ (m : Option Nat),
  e = Ending.returned (Value.map m) ∧
  onP d fun (a : Addr) ↦
  ∃ (w1 : World),
  St Go.Proofs.Try.prog (59 : Nat) w' (Addr.add a (3 : Nat)) (Value.map m) w1 ∧
  onP d fun (a : Addr) ↦
  ∃ (w1_1 : World),
  St Go.Proofs.Try.prog (61 : Nat) w1 (Addr.add a (4 : Nat)) (Value.slice none (0 : Nat) (0 : Nat)) w1_1 ∧ R (Ending.returned (Value.int IntKind.i64 (0 : Int))) w1_1))
theorem syncNames.eq (d : Option Addr) (w : World) (R : Ending → World → Prop) : bodyV Go.Proofs.Try.prog syncNames.an Go.Proofs.Try.f53 [.pointer d] w R = syncNames.vc d w R := by kernel_rfl
theorem syncNames.ok (d : Option Addr) (w : World) (R : Ending → World → Prop) (h : syncNames.vc d w R) : Calls Go.Proofs.Try.prog 53 #[.pointer d] w R :=
  calls_of_bodyV noNum (an := syncNames.an) (args := [.pointer d]) Go.Proofs.Try.func53 (by kernel_rfl) ((syncNames.eq d w R).mpr h)

/-- slices.Clone[[]incunable/vault.sector,incunable/vault.sector] -/
def cloneS.an : An := { wraps := [], loops := [], joins := [], ranges := [] }
def cloneS.vc (sa : Option Addr) (sn : Nat) (sc : Nat) (w : World) (R : Ending → World → Prop) : Prop :=
  ∃ (b : Bool),
  Eqv Go.Proofs.Try.prog BinOp.eql (69 : Nat) (Operand.tmp (3 : Nat)) (Operand.const (Value.slice none (0 : Nat) (0 : Nat))) w (Value.slice sa sn sc) (Value.slice none (0 : Nat) (0 : Nat)) b ∧
  br b (R (Ending.returned (Value.slice none (0 : Nat) (0 : Nat))) w)
  (∃ (e : TypeId),
  ∃ (l : List Value),
  BuildS Go.Proofs.Try.prog (69 : Nat) (0 : Nat) [] e l ∧
  ∀ (b : Nat) (w1 : World),
  New w (Obj.cells (List.toArray l) e) b w1 →
  ∃ (a : Option Addr),
  ∃ (n : Nat),
  ∃ (m : Nat),
  ∃ (w1_1 : World),
  App Go.Proofs.Try.prog #[(69 : Nat), (69 : Nat)] (69 : Nat) w1 (Value.slice (some (Addr.mk b (0 : Nat) none)) (0 : Nat) (0 : Nat)) (Value.slice sa sn sc) (Value.slice a n m)
  w1_1 ∧
  R (Ending.returned (Value.slice a n m)) w1_1)
theorem cloneS.eq (sa : Option Addr) (sn : Nat) (sc : Nat) (w : World) (R : Ending → World → Prop) : bodyV Go.Proofs.Try.prog cloneS.an Go.Proofs.Try.f54 [.slice sa sn sc] w R = cloneS.vc sa sn sc w R := by kernel_rfl
theorem cloneS.ok (sa : Option Addr) (sn : Nat) (sc : Nat) (w : World) (R : Ending → World → Prop) (h : cloneS.vc sa sn sc w R) : Calls Go.Proofs.Try.prog 54 #[.slice sa sn sc] w R :=
  calls_of_bodyV noNum (an := cloneS.an) (args := [.slice sa sn sc]) Go.Proofs.Try.func54 (by kernel_rfl) ((cloneS.eq sa sn sc w R).mpr h)

/-- slices.ContainsFunc[[]string,string] -/
def containsT.an : An := { wraps := [], loops := [], joins := [], ranges := [] }
def containsT.vc (sa : Option Addr) (sn : Nat) (sc : Nat) (f : Value) (w : World) (R : Ending → World → Prop) : Prop :=
  CallV Go.Proofs.Try.prog (68 : Nat) [Value.slice sa sn sc, f] w fun (e : Ending) (w' : World) ↦
  ∃ (i : Int), e = Ending.returned (Value.int IntKind.i64 i) ∧ R (Ending.returned (Value.bool (decide ((0 : Int) ≤ i)))) w'
theorem containsT.eq (sa : Option Addr) (sn : Nat) (sc : Nat) (f : Value) (w : World) (R : Ending → World → Prop) : bodyV Go.Proofs.Try.prog containsT.an Go.Proofs.Try.f58 [.slice sa sn sc, f] w R = containsT.vc sa sn sc f w R := by kernel_rfl
theorem containsT.ok (sa : Option Addr) (sn : Nat) (sc : Nat) (f : Value) (w : World) (R : Ending → World → Prop) (h : containsT.vc sa sn sc f w R) : Calls Go.Proofs.Try.prog 58 #[.slice sa sn sc, f] w R :=
  calls_of_bodyV noNum (an := containsT.an) (args := [.slice sa sn sc, f]) Go.Proofs.Try.func58 (by kernel_rfl) ((containsT.eq sa sn sc f w R).mpr h)

/-- (*incunable/redo.Log).Reset$1 -/
def resetC.an : An := { wraps := [], loops := [], joins := [], ranges := [] }
def resetC.vc (s : ByteArray) (w : World) (R : Ending → World → Prop) : Prop :=
  R (Ending.returned (Value.bool (decide ((65536 : Int) < (↑(ByteArray.size s) : Int))))) w
theorem resetC.eq (s : ByteArray) (w : World) (R : Ending → World → Prop) : bodyV Go.Proofs.Try.prog resetC.an Go.Proofs.Try.f59 [.string s] w R = resetC.vc s w R := by kernel_rfl
theorem resetC.ok (s : ByteArray) (w : World) (R : Ending → World → Prop) (h : resetC.vc s w R) : Calls Go.Proofs.Try.prog 59 #[.string s] w R :=
  calls_of_bodyV noNum (an := resetC.an) (args := [.string s]) Go.Proofs.Try.func59 (by kernel_rfl) ((resetC.eq s w R).mpr h)

/-- incunable/redo.lay[uint32] -/
def lay32.an : An := { wraps := [], loops := [(1, [(7, .inl .i64)])], joins := [], ranges := [] }
def lay32.vc (ba : Option Addr) (bn : Nat) (bc : Nat) (n : Int) (w : World) (R : Ending → World → Prop) : Prop :=
  LoopP
  (fun (s : Int) (w' : World) (next : Int → World → Prop) ↦
  br (decide (s < (↑bn : Int)))
  (inR IntKind.i64 ((↑bn : Int) - (1 : Int)) ∧
  inR IntKind.i64 ((↑bn : Int) - (1 : Int) - s) ∧
  inR IntKind.i64 ((8 : Int) * s) ∧
  (0 : Int) ≤ (8 : Int) * s ∧
  onP ba fun (a : Addr) ↦
  ((0 : Int) ≤ (↑bn : Int) - (1 : Int) - s ∧ (↑bn : Int) - (1 : Int) - s < (↑bn : Int)) ∧
  ∃ (w1 : World),
  St Go.Proofs.Try.prog (5 : Nat) w' (Addr.add a (Int.toNat ((↑bn : Int) - (1 : Int) - s) * (1 : Nat)))
  (Value.int IntKind.u8 (IntKind.wrap IntKind.u8 (Int.fdiv n ((2 : Int) ^ min (Int.toNat ((8 : Int) * s)) (IntKind.bits IntKind.u32))))) w1 ∧
  inR IntKind.i64 (s + (1 : Int)) ∧ next (s + (1 : Int)) w1)
  (R (Ending.returned (Value.tuple #[])) w'))
  (0 : Int) w
theorem lay32.eq (ba : Option Addr) (bn : Nat) (bc : Nat) (n : Int) (w : World) (R : Ending → World → Prop) : bodyV Go.Proofs.Try.prog lay32.an Go.Proofs.Try.f60 [.slice ba bn bc, .int .u32 n] w R = lay32.vc ba bn bc n w R := by kernel_rfl
theorem lay32.ok (ba : Option Addr) (bn : Nat) (bc : Nat) (n : Int) (w : World) (R : Ending → World → Prop) (h : lay32.vc ba bn bc n w R) : Calls Go.Proofs.Try.prog 60 #[.slice ba bn bc, .int .u32 n] w R :=
  calls_of_bodyV noNum (an := lay32.an) (args := [.slice ba bn bc, .int .u32 n]) Go.Proofs.Try.func60 (by kernel_rfl) ((lay32.eq ba bn bc n w R).mpr h)

/-- incunable/redo.lay[uint64] -/
def lay64.an : An := { wraps := [], loops := [(1, [(7, .inl .i64)])], joins := [], ranges := [] }
def lay64.vc (ba : Option Addr) (bn : Nat) (bc : Nat) (n : Int) (w : World) (R : Ending → World → Prop) : Prop :=
  LoopP
  (fun (s : Int) (w' : World) (next : Int → World → Prop) ↦
  br (decide (s < (↑bn : Int)))
  (inR IntKind.i64 ((↑bn : Int) - (1 : Int)) ∧
  inR IntKind.i64 ((↑bn : Int) - (1 : Int) - s) ∧
  inR IntKind.i64 ((8 : Int) * s) ∧
  (0 : Int) ≤ (8 : Int) * s ∧
  onP ba fun (a : Addr) ↦
  ((0 : Int) ≤ (↑bn : Int) - (1 : Int) - s ∧ (↑bn : Int) - (1 : Int) - s < (↑bn : Int)) ∧
  ∃ (w1 : World),
  St Go.Proofs.Try.prog (5 : Nat) w' (Addr.add a (Int.toNat ((↑bn : Int) - (1 : Int) - s) * (1 : Nat)))
  (Value.int IntKind.u8 (IntKind.wrap IntKind.u8 (Int.fdiv n ((2 : Int) ^ min (Int.toNat ((8 : Int) * s)) (IntKind.bits IntKind.u64))))) w1 ∧
  inR IntKind.i64 (s + (1 : Int)) ∧ next (s + (1 : Int)) w1)
  (R (Ending.returned (Value.tuple #[])) w'))
  (0 : Int) w
theorem lay64.eq (ba : Option Addr) (bn : Nat) (bc : Nat) (n : Int) (w : World) (R : Ending → World → Prop) : bodyV Go.Proofs.Try.prog lay64.an Go.Proofs.Try.f61 [.slice ba bn bc, .int .u64 n] w R = lay64.vc ba bn bc n w R := by kernel_rfl
theorem lay64.ok (ba : Option Addr) (bn : Nat) (bc : Nat) (n : Int) (w : World) (R : Ending → World → Prop) (h : lay64.vc ba bn bc n w R) : Calls Go.Proofs.Try.prog 61 #[.slice ba bn bc, .int .u64 n] w R :=
  calls_of_bodyV noNum (an := lay64.an) (args := [.slice ba bn bc, .int .u64 n]) Go.Proofs.Try.func61 (by kernel_rfl) ((lay64.eq ba bn bc n w R).mpr h)

/-- (*incunable/vault.Disk).Sync -/
def sync.an : An := { wraps := [], loops := [], joins := [], ranges := [] }
def sync.vc (d : Option Addr) (name : ByteArray) (w : World) (R : Ending → World → Prop) : Prop :=
  CallV Go.Proofs.Try.prog (30 : Nat) [Value.pointer d, Value.string name] w fun (e : Ending) (w' : World) ↦
  ∃ (p : Option Addr),
  e = Ending.returned (Value.pointer p) ∧
  onP d fun (a : Addr) ↦
  ∃ (b : Bool),
  Ld Go.Proofs.Try.prog (4 : Nat) w' (Addr.add a (7 : Nat)) (Value.bool b) ∧
  br b (R (Ending.returned (Value.int IntKind.i64 (93 : Int))) w')
  (∃ (b : Bool),
  Eqv Go.Proofs.Try.prog BinOp.eql (67 : Nat) (Operand.tmp (15 : Nat)) (Operand.const (Value.pointer none)) w' (Value.pointer p) (Value.pointer none) b ∧
  br b (R (Ending.returned (Value.int IntKind.i64 (90 : Int))) w')
  (CallV Go.Proofs.Try.prog (32 : Nat) [Value.pointer d] w' fun (e : Ending) (w' : World) ↦
  ∃ (b : Bool),
  e = Ending.returned (Value.bool b) ∧
  br b (R (Ending.returned (Value.int IntKind.i64 (95 : Int))) w')
  (CallV Go.Proofs.Try.prog (47 : Nat) [Value.pointer d] w' fun (e : Ending) (w' : World) ↦
  ∃ (b : Bool),
  e = Ending.returned (Value.bool b) ∧
  br b (R (Ending.returned (Value.int IntKind.i64 (93 : Int))) w')
  (onP p fun (a : Addr) ↦
  ∃ (a_1 : Option Addr),
  ∃ (l : Nat),
  ∃ (c : Nat),
  Ld Go.Proofs.Try.prog (69 : Nat) w' a (Value.slice a_1 l c) ∧
  CallV Go.Proofs.Try.prog (54 : Nat) [Value.slice a_1 l c] w' fun (e : Ending) (w' : World) ↦
  ∃ (a : Option Addr),
  ∃ (l : Nat),
  ∃ (c : Nat),
  e = Ending.returned (Value.slice a l c) ∧
  onP p fun (a_2 : Addr) ↦
  ∃ (w1 : World),
  St Go.Proofs.Try.prog (69 : Nat) w' (Addr.add a_2 (1 : Nat)) (Value.slice a l c) w1 ∧
  onP p fun (a : Addr) ↦
  ∃ (m : Option Nat),
  Ld Go.Proofs.Try.prog (68 : Nat) w1 (Addr.add a (2 : Nat)) (Value.map m) ∧
  ∃ (w1_1 : World),
  Clr Go.Proofs.Try.prog #[(68 : Nat)] (0 : Nat) w1 (Value.map m) w1_1 ∧ R (Ending.returned (Value.int IntKind.i64 (0 : Int))) w1_1))))
theorem sync.eq (d : Option Addr) (name : ByteArray) (w : World) (R : Ending → World → Prop) : bodyV Go.Proofs.Try.prog sync.an Go.Proofs.Try.f62 [.pointer d, .string name] w R = sync.vc d name w R := by kernel_rfl
theorem sync.ok (d : Option Addr) (name : ByteArray) (w : World) (R : Ending → World → Prop) (h : sync.vc d name w R) : Calls Go.Proofs.Try.prog 62 #[.pointer d, .string name] w R :=
  calls_of_bodyV noNum (an := sync.an) (args := [.pointer d, .string name]) Go.Proofs.Try.func62 (by kernel_rfl) ((sync.eq d name w R).mpr h)

/-- incunable/redo.take -/
def take.an : An := { wraps := [], loops := [(3, [(3, .inl .u64), (8, .inl .i64)])], joins := [], ranges := [] }
def take.vc (ba : Option Addr) (bn : Nat) (bc : Nat) (w : World) (R : Ending → World → Prop) : Prop :=
  LoopP
  (fun (s : Int × Int) (w' : World) (next : Int × Int → World → Prop) ↦
  br (decide (Prod.snd s < (↑bn : Int)))
  (onP ba fun (a : Addr) ↦
  ((0 : Int) ≤ Prod.snd s ∧ Prod.snd s < (↑bn : Int)) ∧
  ∃ (i : Int),
  Ld Go.Proofs.Try.prog (5 : Nat) w' (Addr.add a (Int.toNat (Prod.snd s) * (1 : Nat))) (Value.int IntKind.u8 i) ∧
  (0 : Int) ≤ (8 : Int) ∧
  inR IntKind.u64 (Prod.fst s * (2 : Int) ^ min (Int.toNat (8 : Int)) (IntKind.bits IntKind.u64)) ∧
  inR IntKind.i64 (Prod.snd s + (1 : Int)) ∧
  next (Vc.bits BinOp.or IntKind.u64 (Prod.fst s * (2 : Int) ^ min (Int.toNat (8 : Int)) (IntKind.bits IntKind.u64)) (IntKind.wrap IntKind.u64 i), Prod.snd s + (1 : Int)) w')
  (R (Ending.returned (Value.int IntKind.u64 (Prod.fst s))) w'))
  ((0 : Int), (0 : Int)) w
theorem take.eq (ba : Option Addr) (bn : Nat) (bc : Nat) (w : World) (R : Ending → World → Prop) : bodyV Go.Proofs.Try.prog take.an Go.Proofs.Try.f63 [.slice ba bn bc] w R = take.vc ba bn bc w R := by kernel_rfl
theorem take.ok (ba : Option Addr) (bn : Nat) (bc : Nat) (w : World) (R : Ending → World → Prop) (h : take.vc ba bn bc w R) : Calls Go.Proofs.Try.prog 63 #[.slice ba bn bc] w R :=
  calls_of_bodyV noNum (an := take.an) (args := [.slice ba bn bc]) Go.Proofs.Try.func63 (by kernel_rfl) ((take.eq ba bn bc w R).mpr h)

/-- (*incunable/vault.Disk).Rename$1 -/
def renameC.an : An := { wraps := [], loops := [], joins := [], ranges := [] }
def renameC.vc (names : Option Nat) (free0 : Option Addr) (free1 : Option Addr) (free2 : Option Addr) (w : World) (R : Ending → World → Prop) : Prop :=
  ∃ (s : ByteArray),
  (onP free0 fun (a : Addr) ↦ Ld Go.Proofs.Try.prog (9 : Nat) w a (Value.string s)) ∧
  ∃ (w1 : World),
  Del Go.Proofs.Try.prog #[(59 : Nat), (9 : Nat)] (0 : Nat) w (Value.map names) (Value.string s) w1 ∧
  ∃ (s : ByteArray),
  (onP free2 fun (a : Addr) ↦ Ld Go.Proofs.Try.prog (9 : Nat) w1 a (Value.string s)) ∧
  ∃ (i : Int),
  (onP free1 fun (a : Addr) ↦ Ld Go.Proofs.Try.prog (3 : Nat) w1 a (Value.int IntKind.i64 i)) ∧
  ∃ (w1_1 : World), MUp Go.Proofs.Try.prog (59 : Nat) w1 (Value.map names) (Value.string s) (Value.int IntKind.i64 i) w1_1 ∧ R (Ending.returned (Value.tuple #[])) w1_1
theorem renameC.eq (names : Option Nat) (free0 : Option Addr) (free1 : Option Addr) (free2 : Option Addr) (w : World) (R : Ending → World → Prop) : bodyV Go.Proofs.Try.prog renameC.an Go.Proofs.Try.f64 [.map names, (.pointer free0), (.pointer free1), (.pointer free2)] w R = renameC.vc names free0 free1 free2 w R := by kernel_rfl
theorem renameC.ok (names : Option Nat) (free0 : Option Addr) (free1 : Option Addr) (free2 : Option Addr) (w : World) (R : Ending → World → Prop) (h : renameC.vc names free0 free1 free2 w R) : Calls Go.Proofs.Try.prog 64 #[.map names, (.pointer free0), (.pointer free1), (.pointer free2)] w R :=
  calls_of_bodyV noNum (an := renameC.an) (args := [.map names, (.pointer free0), (.pointer free1), (.pointer free2)]) Go.Proofs.Try.func64 (by kernel_rfl) ((renameC.eq names free0 free1 free2 w R).mpr h)

/-- slices.IndexFunc[[]string,string] -/
def indexT.an : An := { wraps := [], loops := [(2, [(8, .inl .i64)])], joins := [], ranges := [] }
def indexT.vc (sa : Option Addr) (sn : Nat) (sc : Nat) (f : Value) (w : World) (R : Ending → World → Prop) : Prop :=
  LoopP
  (fun (s : Int) (w' : World) (next : Int → World → Prop) ↦
  br (decide (s < (↑sn : Int)))
  (onP sa fun (a : Addr) ↦
  ((0 : Int) ≤ s ∧ s < (↑sn : Int)) ∧
  ∃ (s_1 : ByteArray),
  Ld Go.Proofs.Try.prog (9 : Nat) w' (Addr.add a (Int.toNat s * (1 : Nat))) (Value.string s_1) ∧
  CallX Go.Proofs.Try.prog f [Value.string s_1] w' fun (e : Ending) (w' : World) ↦
  ∃ (b : Bool), e = Ending.returned (Value.bool b) ∧ br b (R (Ending.returned (Value.int IntKind.i64 s)) w') (inR IntKind.i64 (s + (1 : Int)) ∧ next (s + (1 : Int)) w'))
  (R (Ending.returned (Value.int IntKind.i64 (-1 : Int))) w'))
  (0 : Int) w
theorem indexT.eq (sa : Option Addr) (sn : Nat) (sc : Nat) (f : Value) (w : World) (R : Ending → World → Prop) : bodyV Go.Proofs.Try.prog indexT.an Go.Proofs.Try.f68 [.slice sa sn sc, f] w R = indexT.vc sa sn sc f w R := by kernel_rfl
theorem indexT.ok (sa : Option Addr) (sn : Nat) (sc : Nat) (f : Value) (w : World) (R : Ending → World → Prop) (h : indexT.vc sa sn sc f w R) : Calls Go.Proofs.Try.prog 68 #[.slice sa sn sc, f] w R :=
  calls_of_bodyV noNum (an := indexT.an) (args := [.slice sa sn sc, f]) Go.Proofs.Try.func68 (by kernel_rfl) ((indexT.eq sa sn sc f w R).mpr h)

/-- incunable/incunablelaw10.RedoRaw -/
def redoRaw.an : An := { wraps := [], loops := [(6, [(30, .inl .i64)])], joins := [], ranges := [] }
def redoRaw.vc (scripta : Option Addr) (scriptn : Nat) (scriptc : Nat) (name : ByteArray) (w : World) (R : Ending → World → Prop) : Prop :=
  CallV Go.Proofs.Try.prog (7 : Nat) [Value.int IntKind.i64 (100 : Int)] w fun (e : Ending) (w' : World) ↦
  ∃ (p : Option Addr),
  e = Ending.returned (Value.pointer p) ∧
  ∃ (b : Bool),
  Eqv Go.Proofs.Try.prog BinOp.eql (23 : Nat) (Operand.tmp (14 : Nat)) (Operand.const (Value.pointer none)) w' (Value.pointer p) (Value.pointer none) b ∧
  br b
  (∃ (b : Bool),
  Eqv Go.Proofs.Try.prog BinOp.neq (23 : Nat) (Operand.tmp (21 : Nat)) (Operand.const (Value.pointer none)) w' (Value.pointer p) (Value.pointer none) b ∧
  br b (CallV Go.Proofs.Try.prog (8 : Nat) [] w' fun (e : Ending) (w' : World) ↦ ∃ (b : Bool), e = Ending.returned (Value.bool b) ∧ R (Ending.returned (Value.bool b)) w')
  (R (Ending.returned (Value.bool false)) w'))
  (br (decide ((100 : Int) < (↑scriptn : Int)))
  (∃ (b : Bool),
  Eqv Go.Proofs.Try.prog BinOp.neq (23 : Nat) (Operand.tmp (21 : Nat)) (Operand.const (Value.pointer none)) w' (Value.pointer p) (Value.pointer none) b ∧
  br b (CallV Go.Proofs.Try.prog (8 : Nat) [] w' fun (e : Ending) (w' : World) ↦ ∃ (b : Bool), e = Ending.returned (Value.bool b) ∧ R (Ending.returned (Value.bool b)) w')
  (R (Ending.returned (Value.bool false)) w'))
  (CallV Go.Proofs.Try.prog (9 : Nat) [Value.pointer p, Value.string (ByteArray.mk #[(108 : UInt8), (111 : UInt8), (103 : UInt8)])] w' fun (e : Ending) (w' : World) ↦
  ∃ (i : Int),
  e = Ending.returned (Value.int IntKind.i64 i) ∧
  LoopP
  (fun (s : Int) (w' : World) (next : Int → World → Prop) ↦
  br (decide (s < (↑scriptn : Int)))
  (onP scripta fun (a : Addr) ↦
  ((0 : Int) ≤ s ∧ s < (↑scriptn : Int)) ∧
  ∃ (i : Int),
  ∃ (i_1 : Int),
  ∃ (s_1 : ByteArray),
  ∃ (s_2 : ByteArray),
  ∃ (a_1 : Option Addr),
  ∃ (l : Nat),
  ∃ (c : Nat),
  ∃ (a_2 : Option Addr),
  ∃ (l_1 : Nat),
  ∃ (c_1 : Nat),
  Ld Go.Proofs.Try.prog (31 : Nat) w' (Addr.add a (Int.toNat s * (6 : Nat)))
  (Value.agg
  #[Value.int IntKind.i64 i, Value.int IntKind.i64 i_1, Value.string s_1, Value.string s_2, Value.slice a_1 l c, Value.slice a_2 l_1 c_1]) ∧
  ∀ (b : Nat) (w1 : World),
  New w'
  (Obj.cells
  #[Value.int IntKind.i64 (0 : Int), Value.int IntKind.i64 (0 : Int), Value.string (ByteArray.mk #[]), Value.string (ByteArray.mk #[]),
  Value.slice none (0 : Nat) (0 : Nat), Value.slice none (0 : Nat) (0 : Nat)]
  (31 : Nat))
  b w1 →
  ∃ (w1_1 : World),
  St Go.Proofs.Try.prog (31 : Nat) w1 (Addr.mk b (0 : Nat) none)
  (Value.agg
  #[Value.int IntKind.i64 i, Value.int IntKind.i64 i_1, Value.string s_1, Value.string s_2, Value.slice a_1 l c, Value.slice a_2 l_1 c_1])
  w1_1 ∧
  ∃ (i : Int),
  Ld Go.Proofs.Try.prog (3 : Nat) w1_1 (Addr.mk b (0 : Nat) none) (Value.int IntKind.i64 i) ∧
  br (decide (i = (1 : Int)))
  (∃ (i : Int),
  Ld Go.Proofs.Try.prog (3 : Nat) w1_1 (Addr.mk b (1 : Nat) none) (Value.int IntKind.i64 i) ∧
  ∃ (a : Option Addr),
  ∃ (l : Nat),
  ∃ (c : Nat),
  Ld Go.Proofs.Try.prog (28 : Nat) w1_1 (Addr.mk b (4 : Nat) none) (Value.slice a l c) ∧
  CallV Go.Proofs.Try.prog (10 : Nat)
  [Value.pointer p, Value.string (ByteArray.mk #[(108 : UInt8), (111 : UInt8), (103 : UInt8)]), Value.int IntKind.i64 i,
  Value.slice a l c]
  w1_1 fun (e : Ending) (w' : World) ↦
  ∃ (i : Int), e = Ending.returned (Value.int IntKind.i64 i) ∧ inR IntKind.i64 (s + (1 : Int)) ∧ next (s + (1 : Int)) w')
  (inR IntKind.i64 (s + (1 : Int)) ∧ next (s + (1 : Int)) w1_1))
  (CallV Go.Proofs.Try.prog (11 : Nat) [Value.pointer p, Value.string (ByteArray.mk #[(108 : UInt8), (111 : UInt8), (103 : UInt8)])] w' fun (e : Ending) (w' : World) ↦
  ∃ (p_1 : Option Addr),
  ∃ (i : Int),
  e = Ending.returned (Value.tuple #[Value.pointer p_1, Value.int IntKind.i64 i]) ∧
  CallV Go.Proofs.Try.prog (11 : Nat) [Value.pointer p, Value.string name] w' fun (e : Ending) (w' : World) ↦
  ∃ (p : Option Addr),
  ∃ (i_1 : Int),
  e = Ending.returned (Value.tuple #[Value.pointer p, Value.int IntKind.i64 i_1]) ∧
  br (decide (name = ByteArray.mk #[]))
  (br (!true == decide (i_1 = (92 : Int))) (R (Ending.returned (Value.bool false)) w')
  (∃ (b : Bool),
  Eqv Go.Proofs.Try.prog BinOp.neq (33 : Nat) (Operand.tmp (67 : Nat)) (Operand.const (Value.pointer none)) w' (Value.pointer p) (Value.pointer none) b ∧
  br (!b == decide (i_1 = (0 : Int))) (R (Ending.returned (Value.bool false)) w')
  (CallV Go.Proofs.Try.prog (8 : Nat) [] w' fun (e : Ending) (w' : World) ↦
  ∃ (b : Bool),
  e = Ending.returned (Value.bool b) ∧
  br b
  (∃ (b : Bool),
  Eqv Go.Proofs.Try.prog BinOp.neq (33 : Nat) (Operand.tmp (75 : Nat)) (Operand.const (Value.pointer none)) w' (Value.pointer p_1)
  (Value.pointer none) b ∧
  br (b == decide (i = (0 : Int)))
  (br (decide (i = (0 : Int)))
  (br (!decide (i = (0 : Int))) (R (Ending.returned (Value.bool true)) w')
  (CallV Go.Proofs.Try.prog (12 : Nat) [Value.pointer p_1] w' fun (e : Ending) (w' : World) ↦
  ∃ (i : Int),
  e = Ending.returned (Value.int IntKind.i64 i) ∧
  CallV Go.Proofs.Try.prog (13 : Nat) [Value.pointer p_1] w' fun (e : Ending) (w' : World) ↦
  ∃ (i_2 : Int),
  e = Ending.returned (Value.int IntKind.i64 i_2) ∧
  br (decide (i = i_2))
  (CallV Go.Proofs.Try.prog (14 : Nat) [Value.pointer p_1] w' fun (e : Ending) (w' : World) ↦
  ∃ (i : Int),
  e = Ending.returned (Value.int IntKind.i64 i) ∧ R (Ending.returned (Value.bool (decide (i = (0 : Int))))) w')
  (R (Ending.returned (Value.bool false)) w')))
  (br (decide (i = (100 : Int)))
  (br (!decide (i = (0 : Int))) (R (Ending.returned (Value.bool true)) w')
  (CallV Go.Proofs.Try.prog (12 : Nat) [Value.pointer p_1] w' fun (e : Ending) (w' : World) ↦
  ∃ (i : Int),
  e = Ending.returned (Value.int IntKind.i64 i) ∧
  CallV Go.Proofs.Try.prog (13 : Nat) [Value.pointer p_1] w' fun (e : Ending) (w' : World) ↦
  ∃ (i_2 : Int),
  e = Ending.returned (Value.int IntKind.i64 i_2) ∧
  br (decide (i = i_2))
  (CallV Go.Proofs.Try.prog (14 : Nat) [Value.pointer p_1] w' fun (e : Ending) (w' : World) ↦
  ∃ (i : Int),
  e = Ending.returned (Value.int IntKind.i64 i) ∧ R (Ending.returned (Value.bool (decide (i = (0 : Int))))) w')
  (R (Ending.returned (Value.bool false)) w')))
  (br (decide (i = (94 : Int)))
  (br (!decide (i = (0 : Int))) (R (Ending.returned (Value.bool true)) w')
  (CallV Go.Proofs.Try.prog (12 : Nat) [Value.pointer p_1] w' fun (e : Ending) (w' : World) ↦
  ∃ (i : Int),
  e = Ending.returned (Value.int IntKind.i64 i) ∧
  CallV Go.Proofs.Try.prog (13 : Nat) [Value.pointer p_1] w' fun (e : Ending) (w' : World) ↦
  ∃ (i_2 : Int),
  e = Ending.returned (Value.int IntKind.i64 i_2) ∧
  br (decide (i = i_2))
  (CallV Go.Proofs.Try.prog (14 : Nat) [Value.pointer p_1] w' fun (e : Ending) (w' : World) ↦
  ∃ (i : Int),
  e = Ending.returned (Value.int IntKind.i64 i) ∧
  R (Ending.returned (Value.bool (decide (i = (0 : Int))))) w')
  (R (Ending.returned (Value.bool false)) w')))
  (R (Ending.returned (Value.bool false)) w'))))
  (R (Ending.returned (Value.bool false)) w'))
  (R (Ending.returned (Value.bool false)) w'))))
  (br (!decide ((56 : Int) < (↑(ByteArray.size name) : Int)) == decide (i_1 = (92 : Int))) (R (Ending.returned (Value.bool false)) w')
  (∃ (b : Bool),
  Eqv Go.Proofs.Try.prog BinOp.neq (33 : Nat) (Operand.tmp (67 : Nat)) (Operand.const (Value.pointer none)) w' (Value.pointer p) (Value.pointer none) b ∧
  br (!b == decide (i_1 = (0 : Int))) (R (Ending.returned (Value.bool false)) w')
  (CallV Go.Proofs.Try.prog (8 : Nat) [] w' fun (e : Ending) (w' : World) ↦
  ∃ (b : Bool),
  e = Ending.returned (Value.bool b) ∧
  br b
  (∃ (b : Bool),
  Eqv Go.Proofs.Try.prog BinOp.neq (33 : Nat) (Operand.tmp (75 : Nat)) (Operand.const (Value.pointer none)) w' (Value.pointer p_1)
  (Value.pointer none) b ∧
  br (b == decide (i = (0 : Int)))
  (br (decide (i = (0 : Int)))
  (br (!decide (i = (0 : Int))) (R (Ending.returned (Value.bool true)) w')
  (CallV Go.Proofs.Try.prog (12 : Nat) [Value.pointer p_1] w' fun (e : Ending) (w' : World) ↦
  ∃ (i : Int),
  e = Ending.returned (Value.int IntKind.i64 i) ∧
  CallV Go.Proofs.Try.prog (13 : Nat) [Value.pointer p_1] w' fun (e : Ending) (w' : World) ↦
  ∃ (i_2 : Int),
  e = Ending.returned (Value.int IntKind.i64 i_2) ∧
  br (decide (i = i_2))
  (CallV Go.Proofs.Try.prog (14 : Nat) [Value.pointer p_1] w' fun (e : Ending) (w' : World) ↦
  ∃ (i : Int),
  e = Ending.returned (Value.int IntKind.i64 i) ∧ R (Ending.returned (Value.bool (decide (i = (0 : Int))))) w')
  (R (Ending.returned (Value.bool false)) w')))
  (br (decide (i = (100 : Int)))
  (br (!decide (i = (0 : Int))) (R (Ending.returned (Value.bool true)) w')
  (CallV Go.Proofs.Try.prog (12 : Nat) [Value.pointer p_1] w' fun (e : Ending) (w' : World) ↦
  ∃ (i : Int),
  e = Ending.returned (Value.int IntKind.i64 i) ∧
  CallV Go.Proofs.Try.prog (13 : Nat) [Value.pointer p_1] w' fun (e : Ending) (w' : World) ↦
  ∃ (i_2 : Int),
  e = Ending.returned (Value.int IntKind.i64 i_2) ∧
  br (decide (i = i_2))
  (CallV Go.Proofs.Try.prog (14 : Nat) [Value.pointer p_1] w' fun (e : Ending) (w' : World) ↦
  ∃ (i : Int),
  e = Ending.returned (Value.int IntKind.i64 i) ∧ R (Ending.returned (Value.bool (decide (i = (0 : Int))))) w')
  (R (Ending.returned (Value.bool false)) w')))
  (br (decide (i = (94 : Int)))
  (br (!decide (i = (0 : Int))) (R (Ending.returned (Value.bool true)) w')
  (CallV Go.Proofs.Try.prog (12 : Nat) [Value.pointer p_1] w' fun (e : Ending) (w' : World) ↦
  ∃ (i : Int),
  e = Ending.returned (Value.int IntKind.i64 i) ∧
  CallV Go.Proofs.Try.prog (13 : Nat) [Value.pointer p_1] w' fun (e : Ending) (w' : World) ↦
  ∃ (i_2 : Int),
  e = Ending.returned (Value.int IntKind.i64 i_2) ∧
  br (decide (i = i_2))
  (CallV Go.Proofs.Try.prog (14 : Nat) [Value.pointer p_1] w' fun (e : Ending) (w' : World) ↦
  ∃ (i : Int),
  e = Ending.returned (Value.int IntKind.i64 i) ∧
  R (Ending.returned (Value.bool (decide (i = (0 : Int))))) w')
  (R (Ending.returned (Value.bool false)) w')))
  (R (Ending.returned (Value.bool false)) w'))))
  (R (Ending.returned (Value.bool false)) w'))
  (R (Ending.returned (Value.bool false)) w'))))))
  (0 : Int) w'))
theorem redoRaw.eq (scripta : Option Addr) (scriptn : Nat) (scriptc : Nat) (name : ByteArray) (w : World) (R : Ending → World → Prop) : bodyV Go.Proofs.Try.prog redoRaw.an Go.Proofs.Try.f3 [.slice scripta scriptn scriptc, .string name] w R = redoRaw.vc scripta scriptn scriptc name w R := by kernel_rfl
theorem redoRaw.ok (scripta : Option Addr) (scriptn : Nat) (scriptc : Nat) (name : ByteArray) (w : World) (R : Ending → World → Prop) (h : redoRaw.vc scripta scriptn scriptc name w R) : Calls Go.Proofs.Try.prog 3 #[.slice scripta scriptn scriptc, .string name] w R :=
  calls_of_bodyV noNum (an := redoRaw.an) (args := [.slice scripta scriptn scriptc, .string name]) Go.Proofs.Try.func3 (by kernel_rfl) ((redoRaw.eq scripta scriptn scriptc name w R).mpr h)

/-- incunable/incunablelaw10.RedoBegins -/
def redoBegins.an : An := { wraps := [], loops := [(5, [(5, .inr 2), (36, .inl .i64)])], joins := [], ranges := [] }
def redoBegins.vc (x_Dies : Int) (x_Denies : Int) (x_Names : Int) (x_Picksa : Option Addr) (x_Picksn : Nat) (x_Picksc : Nat) (again_Dies : Int) (again_Denies : Int) (again_Names : Int) (again_Picksa : Option Addr) (again_Picksn : Nat) (again_Picksc : Nat) (w : World) (R : Ending → World → Prop) : Prop :=
  ∀ (b : Nat) (w1 : World),
  New w (Obj.cells #[Value.int IntKind.i64 x_Dies, Value.int IntKind.i64 x_Denies, Value.int IntKind.i64 x_Names, Value.slice x_Picksa x_Picksn x_Picksc] (40 : Nat)) b w1 →
  ∀ (b_1 : Nat) (w1_1 : World),
  New w1 (Obj.cells #[Value.int IntKind.i64 again_Dies, Value.int IntKind.i64 again_Denies, Value.int IntKind.i64 again_Names, Value.slice again_Picksa again_Picksn again_Picksc] (40 : Nat)) b_1
  w1_1 →
  CallV Go.Proofs.Try.prog (7 : Nat) [Value.int IntKind.i64 (2000 : Int)] w1_1 fun (e : Ending) (w' : World) ↦
  ∃ (p : Option Addr),
  e = Ending.returned (Value.pointer p) ∧
  ∃ (b_2 : Bool),
  Eqv Go.Proofs.Try.prog BinOp.eql (23 : Nat) (Operand.tmp (13 : Nat)) (Operand.const (Value.pointer none)) w' (Value.pointer p) (Value.pointer none) b_2 ∧
  br b_2
  (∃ (b : Bool),
  Eqv Go.Proofs.Try.prog BinOp.neq (23 : Nat) (Operand.tmp (27 : Nat)) (Operand.const (Value.pointer none)) w' (Value.pointer p) (Value.pointer none) b ∧
  br b (CallV Go.Proofs.Try.prog (8 : Nat) [] w' fun (e : Ending) (w' : World) ↦ ∃ (b : Bool), e = Ending.returned (Value.bool b) ∧ R (Ending.returned (Value.bool b)) w')
  (R (Ending.returned (Value.bool false)) w'))
  (∃ (a : Option Addr),
  ∃ (l : Nat),
  ∃ (c : Nat),
  Ld Go.Proofs.Try.prog (29 : Nat) w' (Addr.mk b (3 : Nat) none) (Value.slice a l c) ∧
  br (decide ((100 : Int) < (↑l : Int)))
  (∃ (b : Bool),
  Eqv Go.Proofs.Try.prog BinOp.neq (23 : Nat) (Operand.tmp (27 : Nat)) (Operand.const (Value.pointer none)) w' (Value.pointer p) (Value.pointer none) b ∧
  br b (CallV Go.Proofs.Try.prog (8 : Nat) [] w' fun (e : Ending) (w' : World) ↦ ∃ (b : Bool), e = Ending.returned (Value.bool b) ∧ R (Ending.returned (Value.bool b)) w')
  (R (Ending.returned (Value.bool false)) w'))
  (∃ (a : Option Addr),
  ∃ (l : Nat),
  ∃ (c : Nat),
  Ld Go.Proofs.Try.prog (29 : Nat) w' (Addr.mk b_1 (3 : Nat) none) (Value.slice a l c) ∧
  br (decide ((100 : Int) < (↑l : Int)))
  (∃ (b : Bool),
  Eqv Go.Proofs.Try.prog BinOp.neq (23 : Nat) (Operand.tmp (27 : Nat)) (Operand.const (Value.pointer none)) w' (Value.pointer p) (Value.pointer none) b ∧
  br b
  (CallV Go.Proofs.Try.prog (8 : Nat) [] w' fun (e : Ending) (w' : World) ↦
  ∃ (b : Bool), e = Ending.returned (Value.bool b) ∧ R (Ending.returned (Value.bool b)) w')
  (R (Ending.returned (Value.bool false)) w'))
  (∃ (i : Int),
  ∃ (i_1 : Int),
  ∃ (i_2 : Int),
  ∃ (a : Option Addr),
  ∃ (l : Nat),
  ∃ (c : Nat),
  Ld Go.Proofs.Try.prog (40 : Nat) w' (Addr.mk b (0 : Nat) none)
  (Value.agg #[Value.int IntKind.i64 i, Value.int IntKind.i64 i_1, Value.int IntKind.i64 i_2, Value.slice a l c]) ∧
  ∃ (i_3 : Int),
  ∃ (i_4 : Int),
  ∃ (i_5 : Int),
  ∃ (a_1 : Option Addr),
  ∃ (l_1 : Nat),
  ∃ (c_1 : Nat),
  Ld Go.Proofs.Try.prog (40 : Nat) w' (Addr.mk b_1 (0 : Nat) none)
  (Value.agg #[Value.int IntKind.i64 i_3, Value.int IntKind.i64 i_4, Value.int IntKind.i64 i_5, Value.slice a_1 l_1 c_1]) ∧
  ∀ (b : Nat) (w1 : World),
  New w'
  (Obj.cells
  #[Value.int IntKind.i64 i, Value.int IntKind.i64 i_1, Value.int IntKind.i64 i_2, Value.slice a l c,
  Value.int IntKind.i64 i_3, Value.int IntKind.i64 i_4, Value.int IntKind.i64 i_5, Value.slice a_1 l_1 c_1]
  (40 : Nat))
  b w1 →
  LoopP
  (fun (s : Option Addr × Int) (w' : World) (next : Option Addr × Int → World → Prop) ↦
  br (decide (Prod.snd s < (↑(2 : Nat) : Int)))
  (((0 : Int) ≤ Prod.snd s ∧ Prod.snd s < (↑(2 : Nat) : Int)) ∧
  ∃ (i : Int),
  ∃ (i_6 : Int),
  ∃ (i_7 : Int),
  ∃ (a : Option Addr),
  ∃ (l : Nat),
  ∃ (c : Nat),
  Ld Go.Proofs.Try.prog (40 : Nat) w' (Addr.add (Addr.mk b (0 : Nat) none) (Int.toNat (Prod.snd s) * (4 : Nat)))
  (Value.agg
  #[Value.int IntKind.i64 i, Value.int IntKind.i64 i_6, Value.int IntKind.i64 i_7, Value.slice a l c]) ∧
  ∀ (b : Nat) (w1 : World),
  New w'
  (Obj.cells
  #[Value.int IntKind.i64 (0 : Int), Value.int IntKind.i64 (0 : Int),
  Value.int IntKind.i64 (0 : Int), Value.slice none (0 : Nat) (0 : Nat)]
  (40 : Nat))
  b w1 →
  ∃ (w1_2 : World),
  St Go.Proofs.Try.prog (40 : Nat) w1 (Addr.mk b (0 : Nat) none)
  (Value.agg
  #[Value.int IntKind.i64 i, Value.int IntKind.i64 i_6, Value.int IntKind.i64 i_7,
  Value.slice a l c])
  w1_2 ∧
  ∃ (i : Int),
  Ld Go.Proofs.Try.prog (3 : Nat) w1_2 (Addr.mk b (0 : Nat) none) (Value.int IntKind.i64 i) ∧
  CallV Go.Proofs.Try.prog (15 : Nat) [Value.pointer (Prod.fst s), Value.int IntKind.i64 i] w1_2
  fun (e : Ending) (w' : World) ↦
  e = Ending.returned (Value.tuple #[]) ∧
  ∃ (i : Int),
  Ld Go.Proofs.Try.prog (3 : Nat) w' (Addr.mk b (1 : Nat) none) (Value.int IntKind.i64 i) ∧
  CallV Go.Proofs.Try.prog (16 : Nat) [Value.pointer (Prod.fst s), Value.int IntKind.i64 i]
  w' fun (e : Ending) (w' : World) ↦
  e = Ending.returned (Value.tuple #[]) ∧
  CallV Go.Proofs.Try.prog (11 : Nat)
  [Value.pointer (Prod.fst s),
  Value.string (ByteArray.mk #[(108 : UInt8), (111 : UInt8), (103 : UInt8)])]
  w' fun (e : Ending) (w' : World) ↦
  ∃ (p : Option Addr),
  ∃ (i : Int),
  e =
  Ending.returned
  (Value.tuple #[Value.pointer p, Value.int IntKind.i64 i]) ∧
  ∃ (b_3 : Bool),
  Eqv Go.Proofs.Try.prog BinOp.neq (33 : Nat) (Operand.tmp (53 : Nat))
  (Operand.const (Value.pointer none)) w' (Value.pointer p)
  (Value.pointer none) b_3 ∧
  br (!b_3 == decide (i = (0 : Int)))
  (R (Ending.returned (Value.bool false)) w')
  (br (decide (i = (0 : Int)))
  (CallV Go.Proofs.Try.prog (13 : Nat) [Value.pointer p] w'
  fun (e : Ending) (w' : World) ↦
  ∃ (i_8 : Int),
  e = Ending.returned (Value.int IntKind.i64 i_8) ∧
  br (!decide (i_8 = (0 : Int)))
  (R (Ending.returned (Value.bool false)) w')
  (br (!decide (i = (0 : Int)))
  (br (!decide (i = (93 : Int)))
  (br (!decide (i = (95 : Int)))
  (R (Ending.returned (Value.bool false)) w')
  (∃ (i : Int),
  Ld Go.Proofs.Try.prog (3 : Nat) w'
  (Addr.mk b (2 : Nat) none)
  (Value.int IntKind.i64 i) ∧
  ∃ (a : Option Addr),
  ∃ (l : Nat),
  ∃ (c : Nat),
  Ld Go.Proofs.Try.prog (29 : Nat) w'
  (Addr.mk b (3 : Nat) none)
  (Value.slice a l c) ∧
  CallV Go.Proofs.Try.prog (17 : Nat)
  [Value.pointer (Prod.fst s),
  Value.int IntKind.i64 i,
  Value.slice a l c]
  w' fun (e : Ending) (w' : World) ↦
  ∃ (p : Option Addr),
  e =
  Ending.returned
  (Value.pointer p) ∧
  ∃ (b : Bool),
  Eqv Go.Proofs.Try.prog BinOp.eql
  (23 : Nat)
  (Operand.tmp (85 : Nat))
  (Operand.const
  (Value.pointer none))
  w' (Value.pointer p)
  (Value.pointer none) b ∧
  br b
  (R
  (Ending.returned
  (Value.bool false))
  w')
  (inR IntKind.i64
  (Prod.snd s +
  (1 : Int)) ∧
  next
  (p,
  Prod.snd s +
  (1 : Int))
  w')))
  (∃ (i : Int),
  Ld Go.Proofs.Try.prog (3 : Nat) w'
  (Addr.mk b (2 : Nat) none)
  (Value.int IntKind.i64 i) ∧
  ∃ (a : Option Addr),
  ∃ (l : Nat),
  ∃ (c : Nat),
  Ld Go.Proofs.Try.prog (29 : Nat) w'
  (Addr.mk b (3 : Nat) none)
  (Value.slice a l c) ∧
  CallV Go.Proofs.Try.prog (17 : Nat)
  [Value.pointer (Prod.fst s),
  Value.int IntKind.i64 i,
  Value.slice a l c]
  w' fun (e : Ending) (w' : World) ↦
  ∃ (p : Option Addr),
  e =
  Ending.returned
  (Value.pointer p) ∧
  ∃ (b : Bool),
  Eqv Go.Proofs.Try.prog BinOp.eql
  (23 : Nat)
  (Operand.tmp (85 : Nat))
  (Operand.const
  (Value.pointer none))
  w' (Value.pointer p)
  (Value.pointer none) b ∧
  br b
  (R
  (Ending.returned
  (Value.bool false))
  w')
  (inR IntKind.i64
  (Prod.snd s + (1 : Int)) ∧
  next
  (p,
  Prod.snd s + (1 : Int))
  w')))
  (∃ (i : Int),
  Ld Go.Proofs.Try.prog (3 : Nat) w'
  (Addr.mk b (2 : Nat) none)
  (Value.int IntKind.i64 i) ∧
  ∃ (a : Option Addr),
  ∃ (l : Nat),
  ∃ (c : Nat),
  Ld Go.Proofs.Try.prog (29 : Nat) w'
  (Addr.mk b (3 : Nat) none)
  (Value.slice a l c) ∧
  CallV Go.Proofs.Try.prog (17 : Nat)
  [Value.pointer (Prod.fst s),
  Value.int IntKind.i64 i,
  Value.slice a l c]
  w' fun (e : Ending) (w' : World) ↦
  ∃ (p : Option Addr),
  e = Ending.returned (Value.pointer p) ∧
  ∃ (b : Bool),
  Eqv Go.Proofs.Try.prog BinOp.eql
  (23 : Nat)
  (Operand.tmp (85 : Nat))
  (Operand.const
  (Value.pointer none))
  w' (Value.pointer p)
  (Value.pointer none) b ∧
  br b
  (R
  (Ending.returned
  (Value.bool false))
  w')
  (inR IntKind.i64
  (Prod.snd s + (1 : Int)) ∧
  next
  (p, Prod.snd s + (1 : Int))
  w'))))
  (br (!decide (i = (0 : Int)))
  (br (!decide (i = (93 : Int)))
  (br (!decide (i = (95 : Int)))
  (R (Ending.returned (Value.bool false)) w')
  (∃ (i : Int),
  Ld Go.Proofs.Try.prog (3 : Nat) w' (Addr.mk b (2 : Nat) none)
  (Value.int IntKind.i64 i) ∧
  ∃ (a : Option Addr),
  ∃ (l : Nat),
  ∃ (c : Nat),
  Ld Go.Proofs.Try.prog (29 : Nat) w'
  (Addr.mk b (3 : Nat) none)
  (Value.slice a l c) ∧
  CallV Go.Proofs.Try.prog (17 : Nat)
  [Value.pointer (Prod.fst s),
  Value.int IntKind.i64 i, Value.slice a l c]
  w' fun (e : Ending) (w' : World) ↦
  ∃ (p : Option Addr),
  e = Ending.returned (Value.pointer p) ∧
  ∃ (b : Bool),
  Eqv Go.Proofs.Try.prog BinOp.eql (23 : Nat)
  (Operand.tmp (85 : Nat))
  (Operand.const (Value.pointer none))
  w' (Value.pointer p)
  (Value.pointer none) b ∧
  br b
  (R
  (Ending.returned
  (Value.bool false))
  w')
  (inR IntKind.i64
  (Prod.snd s + (1 : Int)) ∧
  next (p, Prod.snd s + (1 : Int))
  w')))
  (∃ (i : Int),
  Ld Go.Proofs.Try.prog (3 : Nat) w' (Addr.mk b (2 : Nat) none)
  (Value.int IntKind.i64 i) ∧
  ∃ (a : Option Addr),
  ∃ (l : Nat),
  ∃ (c : Nat),
  Ld Go.Proofs.Try.prog (29 : Nat) w'
  (Addr.mk b (3 : Nat) none) (Value.slice a l c) ∧
  CallV Go.Proofs.Try.prog (17 : Nat)
  [Value.pointer (Prod.fst s),
  Value.int IntKind.i64 i, Value.slice a l c]
  w' fun (e : Ending) (w' : World) ↦
  ∃ (p : Option Addr),
  e = Ending.returned (Value.pointer p) ∧
  ∃ (b : Bool),
  Eqv Go.Proofs.Try.prog BinOp.eql (23 : Nat)
  (Operand.tmp (85 : Nat))
  (Operand.const (Value.pointer none))
  w' (Value.pointer p)
  (Value.pointer none) b ∧
  br b
  (R
  (Ending.returned (Value.bool false))
  w')
  (inR IntKind.i64
  (Prod.snd s + (1 : Int)) ∧
  next (p, Prod.snd s + (1 : Int))
  w')))
  (∃ (i : Int),
  Ld Go.Proofs.Try.prog (3 : Nat) w' (Addr.mk b (2 : Nat) none)
  (Value.int IntKind.i64 i) ∧
  ∃ (a : Option Addr),
  ∃ (l : Nat),
  ∃ (c : Nat),
  Ld Go.Proofs.Try.prog (29 : Nat) w'
  (Addr.mk b (3 : Nat) none) (Value.slice a l c) ∧
  CallV Go.Proofs.Try.prog (17 : Nat)
  [Value.pointer (Prod.fst s),
  Value.int IntKind.i64 i, Value.slice a l c]
  w' fun (e : Ending) (w' : World) ↦
  ∃ (p : Option Addr),
  e = Ending.returned (Value.pointer p) ∧
  ∃ (b : Bool),
  Eqv Go.Proofs.Try.prog BinOp.eql (23 : Nat)
  (Operand.tmp (85 : Nat))
  (Operand.const (Value.pointer none)) w'
  (Value.pointer p) (Value.pointer none)
  b ∧
  br b
  (R (Ending.returned (Value.bool false))
  w')
  (inR IntKind.i64
  (Prod.snd s + (1 : Int)) ∧
  next (p, Prod.snd s + (1 : Int))
  w')))))
  (CallV Go.Proofs.Try.prog (11 : Nat)
  [Value.pointer (Prod.fst s), Value.string (ByteArray.mk #[(108 : UInt8), (111 : UInt8), (103 : UInt8)])] w'
  fun (e : Ending) (w' : World) ↦
  ∃ (p : Option Addr),
  ∃ (i : Int),
  e = Ending.returned (Value.tuple #[Value.pointer p, Value.int IntKind.i64 i]) ∧
  CallV Go.Proofs.Try.prog (8 : Nat) [] w' fun (e : Ending) (w' : World) ↦
  ∃ (b : Bool),
  e = Ending.returned (Value.bool b) ∧
  br b
  (br (decide (i = (0 : Int)))
  (∃ (b : Bool),
  Eqv Go.Proofs.Try.prog BinOp.neq (33 : Nat) (Operand.tmp (99 : Nat)) (Operand.const (Value.pointer none))
  w' (Value.pointer p) (Value.pointer none) b ∧
  br b
  (CallV Go.Proofs.Try.prog (13 : Nat) [Value.pointer p] w' fun (e : Ending) (w' : World) ↦
  ∃ (i : Int),
  e = Ending.returned (Value.int IntKind.i64 i) ∧
  R (Ending.returned (Value.bool (decide (i = (0 : Int))))) w')
  (R (Ending.returned (Value.bool false)) w'))
  (R (Ending.returned (Value.bool false)) w'))
  (R (Ending.returned (Value.bool false)) w')))
  (p, (0 : Int)) w1)))
theorem redoBegins.eq (x_Dies : Int) (x_Denies : Int) (x_Names : Int) (x_Picksa : Option Addr) (x_Picksn : Nat) (x_Picksc : Nat) (again_Dies : Int) (again_Denies : Int) (again_Names : Int) (again_Picksa : Option Addr) (again_Picksn : Nat) (again_Picksc : Nat) (w : World) (R : Ending → World → Prop) : bodyV Go.Proofs.Try.prog redoBegins.an Go.Proofs.Try.f4 [.agg #[.int .i64 x_Dies, .int .i64 x_Denies, .int .i64 x_Names, .slice x_Picksa x_Picksn x_Picksc], .agg #[.int .i64 again_Dies, .int .i64 again_Denies, .int .i64 again_Names, .slice again_Picksa again_Picksn again_Picksc]] w R = redoBegins.vc x_Dies x_Denies x_Names x_Picksa x_Picksn x_Picksc again_Dies again_Denies again_Names again_Picksa again_Picksn again_Picksc w R := by kernel_rfl
theorem redoBegins.ok (x_Dies : Int) (x_Denies : Int) (x_Names : Int) (x_Picksa : Option Addr) (x_Picksn : Nat) (x_Picksc : Nat) (again_Dies : Int) (again_Denies : Int) (again_Names : Int) (again_Picksa : Option Addr) (again_Picksn : Nat) (again_Picksc : Nat) (w : World) (R : Ending → World → Prop) (h : redoBegins.vc x_Dies x_Denies x_Names x_Picksa x_Picksn x_Picksc again_Dies again_Denies again_Names again_Picksa again_Picksn again_Picksc w R) : Calls Go.Proofs.Try.prog 4 #[.agg #[.int .i64 x_Dies, .int .i64 x_Denies, .int .i64 x_Names, .slice x_Picksa x_Picksn x_Picksc], .agg #[.int .i64 again_Dies, .int .i64 again_Denies, .int .i64 again_Names, .slice again_Picksa again_Picksn again_Picksc]] w R :=
  calls_of_bodyV noNum (an := redoBegins.an) (args := [.agg #[.int .i64 x_Dies, .int .i64 x_Denies, .int .i64 x_Names, .slice x_Picksa x_Picksn x_Picksc], .agg #[.int .i64 again_Dies, .int .i64 again_Denies, .int .i64 again_Names, .slice again_Picksa again_Picksn again_Picksc]]) Go.Proofs.Try.func4 (by kernel_rfl) ((redoBegins.eq x_Dies x_Denies x_Names x_Picksa x_Picksn x_Picksc again_Dies again_Denies again_Names again_Picksa again_Picksn again_Picksc w R).mpr h)

/-- incunable/incunablelaw10.RedoPrefix -/
def redoPrefix.an : An := { wraps := [], loops := [(8, [(5, .inr 3), (24, .inl .i64)])], joins := [], ranges := [] }
def redoPrefix.vc (scripta : Option Addr) (scriptn : Nat) (scriptc : Nat) (w : World) (R : Ending → World → Prop) : Prop :=
  CallV Go.Proofs.Try.prog (18 : Nat) [Value.slice scripta scriptn scriptc] w fun (e : Ending) (w' : World) ↦
  ∃ (b : Bool),
  e = Ending.returned (Value.bool b) ∧
  br (!b) (CallV Go.Proofs.Try.prog (8 : Nat) [] w' fun (e : Ending) (w' : World) ↦ ∃ (b : Bool), e = Ending.returned (Value.bool b) ∧ R (Ending.returned (Value.bool b)) w')
  (CallV Go.Proofs.Try.prog (19 : Nat) [] w' fun (e : Ending) (w' : World) ↦
  ∃ (p : Option Addr),
  ∃ (p_1 : Option Addr),
  e = Ending.returned (Value.tuple #[Value.pointer p, Value.pointer p_1]) ∧
  ∃ (b : Bool),
  Eqv Go.Proofs.Try.prog BinOp.eql (33 : Nat) (Operand.tmp (20 : Nat)) (Operand.const (Value.pointer none)) w' (Value.pointer p_1) (Value.pointer none) b ∧
  br b (R (Ending.returned (Value.bool false)) w')
  (LoopP
  (fun (s : (Option Addr × Nat × Nat) × Int) (w' : World) (next : (Option Addr × Nat × Nat) × Int → World → Prop) ↦
  br (decide (Prod.snd s < (↑scriptn : Int)))
  (onP scripta fun (a : Addr) ↦
  ((0 : Int) ≤ Prod.snd s ∧ Prod.snd s < (↑scriptn : Int)) ∧
  ∃ (i : Int),
  ∃ (s_1 : ByteArray),
  ∃ (a_1 : Option Addr),
  ∃ (l : Nat),
  ∃ (c : Nat),
  Ld Go.Proofs.Try.prog (51 : Nat) w' (Addr.add a (Int.toNat (Prod.snd s) * (3 : Nat)))
  (Value.agg #[Value.int IntKind.i64 i, Value.string s_1, Value.slice a_1 l c]) ∧
  ∀ (b : Nat) (w1 : World),
  New w' (Obj.cells #[Value.int IntKind.i64 (0 : Int), Value.string (ByteArray.mk #[]), Value.slice none (0 : Nat) (0 : Nat)] (51 : Nat)) b w1 →
  ∃ (w1_1 : World),
  St Go.Proofs.Try.prog (51 : Nat) w1 (Addr.mk b (0 : Nat) none) (Value.agg #[Value.int IntKind.i64 i, Value.string s_1, Value.slice a_1 l c]) w1_1 ∧
  ∃ (i : Int),
  ∃ (s_2 : ByteArray),
  ∃ (a : Option Addr),
  ∃ (l : Nat),
  ∃ (c : Nat),
  Ld Go.Proofs.Try.prog (51 : Nat) w1_1 (Addr.mk b (0 : Nat) none)
  (Value.agg #[Value.int IntKind.i64 i, Value.string s_2, Value.slice a l c]) ∧
  CallV Go.Proofs.Try.prog (20 : Nat) [Value.pointer p_1, Value.agg #[Value.int IntKind.i64 i, Value.string s_2, Value.slice a l c]] w1_1
  fun (e : Ending) (w' : World) ↦
  ∃ (i : Int),
  e = Ending.returned (Value.int IntKind.i64 i) ∧
  CallV Go.Proofs.Try.prog (21 : Nat) [Value.pointer p_1] w' fun (e : Ending) (w' : World) ↦
  ∃ (a : Option Addr),
  ∃ (l : Nat),
  ∃ (c : Nat),
  e = Ending.returned (Value.slice a l c) ∧
  CallV Go.Proofs.Try.prog (12 : Nat) [Value.pointer p_1] w' fun (e : Ending) (w' : World) ↦
  ∃ (i_1 : Int),
  e = Ending.returned (Value.int IntKind.i64 i_1) ∧
  CallV Go.Proofs.Try.prog (13 : Nat) [Value.pointer p_1] w' fun (e : Ending) (w' : World) ↦
  ∃ (i_2 : Int),
  e = Ending.returned (Value.int IntKind.i64 i_2) ∧
  br (decide (i_2 < i_1)) (R (Ending.returned (Value.bool false)) w')
  (CallV Go.Proofs.Try.prog (13 : Nat) [Value.pointer p_1] w' fun (e : Ending) (w' : World) ↦
  ∃ (i_3 : Int),
  e = Ending.returned (Value.int IntKind.i64 i_3) ∧
  br (!decide ((↑l : Int) = i_3)) (R (Ending.returned (Value.bool false)) w')
  (∃ (i_4 : Int),
  Ld Go.Proofs.Try.prog (3 : Nat) w' (Addr.mk b (0 : Nat) none) (Value.int IntKind.i64 i_4) ∧
  br (!decide (i_4 = (2 : Int)))
  (br (decide ((↑l : Int) < (↑(Prod.fst (Prod.snd (Prod.fst s))) : Int)))
  (R (Ending.returned (Value.bool false)) w')
  (((0 : Int) ≤ (↑(Prod.fst (Prod.snd (Prod.fst s))) : Int) ∧
  (↑(Prod.fst (Prod.snd (Prod.fst s))) : Int) ≤ (↑c : Int)) ∧
  CallV Go.Proofs.Try.prog (22 : Nat)
  [Value.slice a (Int.toNat (↑(Prod.fst (Prod.snd (Prod.fst s))) : Int)) c,
  Value.slice (Prod.fst (Prod.fst s)) (Prod.fst (Prod.snd (Prod.fst s)))
  (Prod.snd (Prod.snd (Prod.fst s)))]
  w' fun (e : Ending) (w' : World) ↦
  ∃ (b_1 : Bool),
  e = Ending.returned (Value.bool b_1) ∧
  br (!b_1) (R (Ending.returned (Value.bool false)) w')
  (∃ (i_5 : Int),
  Ld Go.Proofs.Try.prog (3 : Nat) (World.drew w') (Addr.mk b (0 : Nat) none)
  (Value.int IntKind.i64 i_5) ∧
  br (decide (i_5 = (0 : Int)))
  (br (decide (i = (0 : Int)))
  (inR IntKind.i64 ((↑l : Int) - (1 : Int)) ∧
  onP a fun (a_2 : Addr) ↦
  ((0 : Int) ≤ (↑l : Int) - (1 : Int) ∧
  (↑l : Int) - (1 : Int) < (↑l : Int)) ∧
  ∃ (s_3 : ByteArray),
  Ld Go.Proofs.Try.prog (9 : Nat) (World.drew w')
  (Addr.add a_2
  (Int.toNat ((↑l : Int) - (1 : Int)) * (1 : Nat)))
  (Value.string s_3) ∧
  ∃ (s_4 : ByteArray),
  Ld Go.Proofs.Try.prog (9 : Nat) (World.drew w')
  (Addr.mk b (1 : Nat) none) (Value.string s_4) ∧
  br (!decide (s_3 = s_4))
  (R (Ending.returned (Value.bool false)) (World.drew w'))
  (inR IntKind.i64 (Prod.snd s + (1 : Int)) ∧
  next ((a, l, c), Prod.snd s + (1 : Int))
  (World.drew w')))
  (inR IntKind.i64 (Prod.snd s + (1 : Int)) ∧
  next ((a, l, c), Prod.snd s + (1 : Int)) (World.drew w')))
  (inR IntKind.i64 (Prod.snd s + (1 : Int)) ∧
  next ((a, l, c), Prod.snd s + (1 : Int)) (World.drew w')))))
  (∃ (i_5 : Int),
  Ld Go.Proofs.Try.prog (3 : Nat) (World.drew w') (Addr.mk b (0 : Nat) none)
  (Value.int IntKind.i64 i_5) ∧
  br (decide (i_5 = (0 : Int)))
  (br (decide (i = (0 : Int)))
  (inR IntKind.i64 ((↑l : Int) - (1 : Int)) ∧
  onP a fun (a_2 : Addr) ↦
  ((0 : Int) ≤ (↑l : Int) - (1 : Int) ∧ (↑l : Int) - (1 : Int) < (↑l : Int)) ∧
  ∃ (s_3 : ByteArray),
  Ld Go.Proofs.Try.prog (9 : Nat) (World.drew w')
  (Addr.add a_2 (Int.toNat ((↑l : Int) - (1 : Int)) * (1 : Nat)))
  (Value.string s_3) ∧
  ∃ (s_4 : ByteArray),
  Ld Go.Proofs.Try.prog (9 : Nat) (World.drew w') (Addr.mk b (1 : Nat) none)
  (Value.string s_4) ∧
  br (!decide (s_3 = s_4))
  (R (Ending.returned (Value.bool false)) (World.drew w'))
  (inR IntKind.i64 (Prod.snd s + (1 : Int)) ∧
  next ((a, l, c), Prod.snd s + (1 : Int)) (World.drew w')))
  (inR IntKind.i64 (Prod.snd s + (1 : Int)) ∧
  next ((a, l, c), Prod.snd s + (1 : Int)) (World.drew w')))
  (inR IntKind.i64 (Prod.snd s + (1 : Int)) ∧
  next ((a, l, c), Prod.snd s + (1 : Int)) (World.drew w'))))))
  (CallV Go.Proofs.Try.prog (11 : Nat) [Value.pointer p, Value.string (ByteArray.mk #[(108 : UInt8), (111 : UInt8), (103 : UInt8)])] w' fun (e : Ending) (w' : World) ↦
  ∃ (p : Option Addr),
  ∃ (i : Int),
  e = Ending.returned (Value.tuple #[Value.pointer p, Value.int IntKind.i64 i]) ∧
  CallV Go.Proofs.Try.prog (8 : Nat) [] w' fun (e : Ending) (w' : World) ↦
  ∃ (b : Bool),
  e = Ending.returned (Value.bool b) ∧
  br b
  (br (decide (i = (0 : Int)))
  (∃ (b : Bool),
  Eqv Go.Proofs.Try.prog BinOp.neq (33 : Nat) (Operand.tmp (95 : Nat)) (Operand.const (Value.pointer none)) w' (Value.pointer p) (Value.pointer none) b ∧
  br b
  (CallV Go.Proofs.Try.prog (13 : Nat) [Value.pointer p] w' fun (e : Ending) (w' : World) ↦
  ∃ (i : Int),
  e = Ending.returned (Value.int IntKind.i64 i) ∧
  br (decide (i ≤ (↑(Prod.fst (Prod.snd (Prod.fst s))) : Int)))
  (CallV Go.Proofs.Try.prog (21 : Nat) [Value.pointer p] w' fun (e : Ending) (w' : World) ↦
  ∃ (a : Option Addr),
  ∃ (l : Nat),
  ∃ (c : Nat),
  e = Ending.returned (Value.slice a l c) ∧
  CallV Go.Proofs.Try.prog (13 : Nat) [Value.pointer p] w' fun (e : Ending) (w' : World) ↦
  ∃ (i : Int),
  e = Ending.returned (Value.int IntKind.i64 i) ∧
  ((0 : Int) ≤ i ∧ i ≤ (↑(Prod.snd (Prod.snd (Prod.fst s))) : Int)) ∧
  CallV Go.Proofs.Try.prog (22 : Nat)
  [Value.slice a l c, Value.slice (Prod.fst (Prod.fst s)) (Int.toNat i) (Prod.snd (Prod.snd (Prod.fst s)))] w'
  fun (e : Ending) (w' : World) ↦
  ∃ (b : Bool), e = Ending.returned (Value.bool b) ∧ R (Ending.returned (Value.bool b)) w')
  (R (Ending.returned (Value.bool false)) w'))
  (R (Ending.returned (Value.bool false)) w'))
  (R (Ending.returned (Value.bool false)) w'))
  (R (Ending.returned (Value.bool false)) w')))
  ((none, (0 : Nat), (0 : Nat)), (0 : Int)) w'))
theorem redoPrefix.eq (scripta : Option Addr) (scriptn : Nat) (scriptc : Nat) (w : World) (R : Ending → World → Prop) : bodyV Go.Proofs.Try.prog redoPrefix.an Go.Proofs.Try.f5 [.slice scripta scriptn scriptc] w R = redoPrefix.vc scripta scriptn scriptc w R := by kernel_rfl
theorem redoPrefix.ok (scripta : Option Addr) (scriptn : Nat) (scriptc : Nat) (w : World) (R : Ending → World → Prop) (h : redoPrefix.vc scripta scriptn scriptc w R) : Calls Go.Proofs.Try.prog 5 #[.slice scripta scriptn scriptc] w R :=
  calls_of_bodyV noNum (an := redoPrefix.an) (args := [.slice scripta scriptn scriptc]) Go.Proofs.Try.func5 (by kernel_rfl) ((redoPrefix.eq scripta scriptn scriptc w R).mpr h)

/-- incunable/incunablelaw10.RedoAll -/
def redoAll.an : An := { wraps := [], loops := [(8, [(24, .inl .i64)])], joins := [], ranges := [] }
def redoAll.vc (scripta : Option Addr) (scriptn : Nat) (scriptc : Nat) (w : World) (R : Ending → World → Prop) : Prop :=
  CallV Go.Proofs.Try.prog (18 : Nat) [Value.slice scripta scriptn scriptc] w fun (e : Ending) (w' : World) ↦
  ∃ (b : Bool),
  e = Ending.returned (Value.bool b) ∧
  br (!b) (CallV Go.Proofs.Try.prog (8 : Nat) [] w' fun (e : Ending) (w' : World) ↦ ∃ (b : Bool), e = Ending.returned (Value.bool b) ∧ R (Ending.returned (Value.bool b)) w')
  (CallV Go.Proofs.Try.prog (19 : Nat) [] w' fun (e : Ending) (w' : World) ↦
  ∃ (p : Option Addr),
  ∃ (p_1 : Option Addr),
  e = Ending.returned (Value.tuple #[Value.pointer p, Value.pointer p_1]) ∧
  ∃ (b : Bool),
  Eqv Go.Proofs.Try.prog BinOp.eql (33 : Nat) (Operand.tmp (20 : Nat)) (Operand.const (Value.pointer none)) w' (Value.pointer p_1) (Value.pointer none) b ∧
  br b (R (Ending.returned (Value.bool false)) w')
  (∀ (b : Nat) (w1 : World),
  New w' (Obj.cells #[Value.slice none (0 : Nat) (0 : Nat), Value.slice none (0 : Nat) (0 : Nat)] (56 : Nat)) b w1 →
  LoopP
  (fun (s : Int) (w' : World) (next : Int → World → Prop) ↦
  br (decide (s < (↑scriptn : Int)))
  (onP scripta fun (a : Addr) ↦
  ((0 : Int) ≤ s ∧ s < (↑scriptn : Int)) ∧
  ∃ (i : Int),
  ∃ (s_1 : ByteArray),
  ∃ (a_1 : Option Addr),
  ∃ (l : Nat),
  ∃ (c : Nat),
  Ld Go.Proofs.Try.prog (51 : Nat) w' (Addr.add a (Int.toNat s * (3 : Nat))) (Value.agg #[Value.int IntKind.i64 i, Value.string s_1, Value.slice a_1 l c]) ∧
  ∀ (b_1 : Nat) (w1 : World),
  New w' (Obj.cells #[Value.int IntKind.i64 (0 : Int), Value.string (ByteArray.mk #[]), Value.slice none (0 : Nat) (0 : Nat)] (51 : Nat)) b_1 w1 →
  ∃ (w1_1 : World),
  St Go.Proofs.Try.prog (51 : Nat) w1 (Addr.mk b_1 (0 : Nat) none) (Value.agg #[Value.int IntKind.i64 i, Value.string s_1, Value.slice a_1 l c]) w1_1 ∧
  ∃ (i : Int),
  ∃ (s_2 : ByteArray),
  ∃ (a : Option Addr),
  ∃ (l : Nat),
  ∃ (c : Nat),
  Ld Go.Proofs.Try.prog (51 : Nat) w1_1 (Addr.mk b_1 (0 : Nat) none)
  (Value.agg #[Value.int IntKind.i64 i, Value.string s_2, Value.slice a l c]) ∧
  CallV Go.Proofs.Try.prog (20 : Nat) [Value.pointer p_1, Value.agg #[Value.int IntKind.i64 i, Value.string s_2, Value.slice a l c]] w1_1
  fun (e : Ending) (w' : World) ↦
  ∃ (i : Int),
  e = Ending.returned (Value.int IntKind.i64 i) ∧
  ∃ (i_1 : Int),
  Ld Go.Proofs.Try.prog (3 : Nat) w' (Addr.mk b_1 (0 : Nat) none) (Value.int IntKind.i64 i_1) ∧
  br (decide (i_1 = (0 : Int)))
  (∃ (s_3 : ByteArray),
  Ld Go.Proofs.Try.prog (9 : Nat) w' (Addr.mk b_1 (1 : Nat) none) (Value.string s_3) ∧
  br (decide ((65536 : Int) < (↑(ByteArray.size s_3) : Int)))
  (br (!true == decide (i = (101 : Int))) (R (Ending.returned (Value.bool false)) w')
  (∃ (a : Option Addr),
  ∃ (l : Nat),
  ∃ (c : Nat),
  ∃ (a_2 : Option Addr),
  ∃ (l_1 : Nat),
  ∃ (c_1 : Nat),
  Ld Go.Proofs.Try.prog (56 : Nat) w' (Addr.mk b (0 : Nat) none)
  (Value.agg #[Value.slice a l c, Value.slice a_2 l_1 c_1]) ∧
  ∃ (i_2 : Int),
  ∃ (s_4 : ByteArray),
  ∃ (a_3 : Option Addr),
  ∃ (l_2 : Nat),
  ∃ (c_2 : Nat),
  Ld Go.Proofs.Try.prog (51 : Nat) w' (Addr.mk b_1 (0 : Nat) none)
  (Value.agg
  #[Value.int IntKind.i64 i_2, Value.string s_4, Value.slice a_3 l_2 c_2]) ∧
  CallV Go.Proofs.Try.prog (24 : Nat)
  [Value.agg #[Value.slice a l c, Value.slice a_2 l_1 c_1],
  Value.agg #[Value.int IntKind.i64 i_2, Value.string s_4, Value.slice a_3 l_2 c_2],
  Value.int IntKind.i64 i]
  w' fun (e : Ending) (w' : World) ↦
  ∃ (a : Option Addr),
  ∃ (l : Nat),
  ∃ (c : Nat),
  ∃ (a_4 : Option Addr),
  ∃ (l_3 : Nat),
  ∃ (c_3 : Nat),
  e =
  Ending.returned
  (Value.agg #[Value.slice a l c, Value.slice a_4 l_3 c_3]) ∧
  ∃ (w1 : World),
  St Go.Proofs.Try.prog (56 : Nat) w' (Addr.mk b (0 : Nat) none)
  (Value.agg #[Value.slice a l c, Value.slice a_4 l_3 c_3]) w1 ∧
  ∃ (a : Option Addr),
  ∃ (l : Nat),
  ∃ (c : Nat),
  Ld Go.Proofs.Try.prog (49 : Nat) (World.drew w1)
  (Addr.mk b (0 : Nat) none) (Value.slice a l c) ∧
  CallV Go.Proofs.Try.prog (21 : Nat) [Value.pointer p_1]
  (World.drew w1) fun (e : Ending) (w' : World) ↦
  ∃ (a_5 : Option Addr),
  ∃ (l_4 : Nat),
  ∃ (c_4 : Nat),
  e = Ending.returned (Value.slice a_5 l_4 c_4) ∧
  Ld Go.Proofs.Try.prog (49 : Nat) w'
  (Addr.mk b (0 : Nat) none)
  (Value.slice a l c) ∧
  CallV Go.Proofs.Try.prog (22 : Nat)
  [Value.slice a_5 l_4 c_4, Value.slice a l c]
  w' fun (e : Ending) (w' : World) ↦
  ∃ (b_2 : Bool),
  e = Ending.returned (Value.bool b_2) ∧
  br (!b_2)
  (R
  (Ending.returned (Value.bool false))
  w')
  (∃ (a : Option Addr),
  ∃ (l : Nat),
  ∃ (c : Nat),
  Ld Go.Proofs.Try.prog (49 : Nat) w'
  (Addr.mk b (0 : Nat) none)
  (Value.slice a l c) ∧
  CallV Go.Proofs.Try.prog
  (13 : Nat)
  [Value.pointer p_1] w'
  fun (e : Ending)
  (w' : World) ↦
  ∃ (i : Int),
  e =
  Ending.returned
  (Value.int
  IntKind.i64 i) ∧
  Ld Go.Proofs.Try.prog
  (49 : Nat) w'
  (Addr.mk b (0 : Nat)
  none)
  (Value.slice a l
  c) ∧
  br
  (!decide
  (i =
  (↑l : Int)))
  (R
  (Ending.returned
  (Value.bool
  false))
  w')
  (∃ (a :
  Option Addr),
  ∃ (l : Nat),
  ∃ (c : Nat),
  Ld
  Go.Proofs.Try.prog
  (49 : Nat)
  w'
  (Addr.mk b
  (1 :
  Nat)
  none)
  (Value.slice
  a l c) ∧
  CallV
  Go.Proofs.Try.prog
  (12 : Nat)
  [Value.pointer
  p_1]
  w'
  fun
  (e :
  Ending)
  (w' :
  World) ↦
  ∃ (i :
  Int),
  e =
  Ending.returned
  (Value.int
  IntKind.i64
  i) ∧
  Ld
  Go.Proofs.Try.prog
  (49 :
  Nat)
  w'
  (Addr.mk
  b
  (1 :
  Nat)
  none)
  (Value.slice
  a
  l
  c) ∧
  br
  (!decide
  (i =
  (↑l :
  Int)))
  (R
  (Ending.returned
  (Value.bool
  false))
  w')
  (CallV
  Go.Proofs.Try.prog
  (14 :
  Nat)
  [Value.pointer
  p_1]
  w'
  fun
  (e :
  Ending)
  (w' :
  World) ↦
  ∃
  (i
  :
  Int),
  e =
  Ending.returned
  (Value.int
  IntKind.i64
  i) ∧
  br
  (!decide
  (i =
  (0 :
  Int)))
  (R
  (Ending.returned
  (Value.bool
  false))
  w')
  (inR
  IntKind.i64
  (s +
  (1 :
  Int)) ∧
  next
  (s +
  (1 :
  Int))
  w'))))))
  (∃ (i_2 : Int),
  Ld Go.Proofs.Try.prog (3 : Nat) w' (Addr.mk b_1 (0 : Nat) none) (Value.int IntKind.i64 i_2) ∧
  br (decide (i_2 = (2 : Int)))
  (∃ (a : Option Addr),
  ∃ (l : Nat),
  ∃ (c : Nat),
  Ld Go.Proofs.Try.prog (49 : Nat) w' (Addr.mk b_1 (2 : Nat) none) (Value.slice a l c) ∧
  CallV Go.Proofs.Try.prog (23 : Nat) [Value.slice a l c] w' fun (e : Ending) (w' : World) ↦
  ∃ (b_2 : Bool),
  e = Ending.returned (Value.bool b_2) ∧
  br (!b_2 == decide (i = (101 : Int))) (R (Ending.returned (Value.bool false)) w')
  (br (!b_2)
  (br (!decide (i = (0 : Int))) (R (Ending.returned (Value.bool false)) w')
  (∃ (a : Option Addr),
  ∃ (l : Nat),
  ∃ (c : Nat),
  ∃ (a_2 : Option Addr),
  ∃ (l_1 : Nat),
  ∃ (c_1 : Nat),
  Ld Go.Proofs.Try.prog (56 : Nat) w' (Addr.mk b (0 : Nat) none)
  (Value.agg #[Value.slice a l c, Value.slice a_2 l_1 c_1]) ∧
  ∃ (i_3 : Int),
  ∃ (s_4 : ByteArray),
  ∃ (a_3 : Option Addr),
  ∃ (l_2 : Nat),
  ∃ (c_2 : Nat),
  Ld Go.Proofs.Try.prog (51 : Nat) w' (Addr.mk b_1 (0 : Nat) none)
  (Value.agg
  #[Value.int IntKind.i64 i_3, Value.string s_4,
  Value.slice a_3 l_2 c_2]) ∧
  CallV Go.Proofs.Try.prog (24 : Nat)
  [Value.agg #[Value.slice a l c, Value.slice a_2 l_1 c_1],
  Value.agg
  #[Value.int IntKind.i64 i_3, Value.string s_4,
  Value.slice a_3 l_2 c_2],
  Value.int IntKind.i64 i]
  w' fun (e : Ending) (w' : World) ↦
  ∃ (a : Option Addr),
  ∃ (l : Nat),
  ∃ (c : Nat),
  ∃ (a_4 : Option Addr),
  ∃ (l_3 : Nat),
  ∃ (c_3 : Nat),
  e =
  Ending.returned
  (Value.agg
  #[Value.slice a l c,
  Value.slice a_4 l_3 c_3]) ∧
  ∃ (w1 : World),
  St Go.Proofs.Try.prog (56 : Nat) w'
  (Addr.mk b (0 : Nat) none)
  (Value.agg
  #[Value.slice a l c,
  Value.slice a_4 l_3 c_3])
  w1 ∧
  ∃ (a : Option Addr),
  ∃ (l : Nat),
  ∃ (c : Nat),
  Ld Go.Proofs.Try.prog (49 : Nat)
  (World.drew w1)
  (Addr.mk b (0 : Nat) none)
  (Value.slice a l c) ∧
  CallV Go.Proofs.Try.prog (21 : Nat)
  [Value.pointer p_1]
  (World.drew w1)
  fun (e : Ending) (w' : World) ↦
  ∃ (a_5 : Option Addr),
  ∃ (l_4 : Nat),
  ∃ (c_4 : Nat),
  e =
  Ending.returned
  (Value.slice a_5 l_4
  c_4) ∧
  Ld Go.Proofs.Try.prog
  (49 : Nat) w'
  (Addr.mk b (0 : Nat)
  none)
  (Value.slice a l
  c) ∧
  CallV Go.Proofs.Try.prog
  (22 : Nat)
  [Value.slice a_5 l_4
  c_4,
  Value.slice a l c]
  w'
  fun (e : Ending)
  (w' : World) ↦
  ∃ (b_3 : Bool),
  e =
  Ending.returned
  (Value.bool
  b_3) ∧
  br (!b_3)
  (R
  (Ending.returned
  (Value.bool
  false))
  w')
  (∃ (a :
  Option
  Addr),
  ∃ (l : Nat),
  ∃ (c :
  Nat),
  Ld
  Go.Proofs.Try.prog
  (49 :
  Nat)
  w'
  (Addr.mk
  b
  (0 :
  Nat)
  none)
  (Value.slice
  a
  l
  c) ∧
  CallV
  Go.Proofs.Try.prog
  (13 :
  Nat)
  [Value.pointer
  p_1]
  w'
  fun
  (e :
  Ending)
  (w' :
  World) ↦
  ∃ (i
  :
  Int),
  e =
  Ending.returned
  (Value.int
  IntKind.i64
  i) ∧
  Ld
  Go.Proofs.Try.prog
  (49 :
  Nat)
  w'
  (Addr.mk
  b
  (0 :
  Nat)
  none)
  (Value.slice
  a
  l
  c) ∧
  br
  (!decide
  (i =
  (↑l :
  Int)))
  (R
  (Ending.returned
  (Value.bool
  false))
  w')
  (∃
  (a
  :
  Option
  Addr),
  ∃
  (l
  :
  Nat),
  ∃
  (c
  :
  Nat),
  Ld
  Go.Proofs.Try.prog
  (49 :
  Nat)
  w'
  (Addr.mk
  b
  (1 :
  Nat)
  none)
  (Value.slice
  a
  l
  c) ∧
  CallV
  Go.Proofs.Try.prog
  (12 :
  Nat)
  [Value.pointer
  p_1]
  w'
  fun
  (e :
  Ending)
  (w' :
  World) ↦
  ∃
  (i
  :
  Int),
  e =
  Ending.returned
  (Value.int
  IntKind.i64
  i) ∧
  Ld
  Go.Proofs.Try.prog
  (49 :
  Nat)
  w'
  (Addr.mk
  b
  (1 :
  Nat)
  none)
  (Value.slice
  a
  l
  c) ∧
  br
  (!decide
  (i =
  (↑l :
  Int)))
  (R
  (Ending.returned
  (Value.bool
  false))
  w')
  (CallV
  Go.Proofs.Try.prog
  (14 :
  Nat)
  [Value.pointer
  p_1]
  w'
  fun
  (e :
  Ending)
  (w' :
  World) ↦
  ∃
  (i
  :
  Int),
  e =
  Ending.returned
  (Value.int
  IntKind.i64
  i) ∧
  br
  (!decide
  (i =
  (0 :
  Int)))
  (R
  (Ending.returned
  (Value.bool
  false))
  w')
  (inR
  IntKind.i64
  (s +
  (1 :
  Int)) ∧
  next
  (s +
  (1 :
  Int))
  w'))))))
  (∃ (a : Option Addr),
  ∃ (l : Nat),
  ∃ (c : Nat),
  ∃ (a_2 : Option Addr),
  ∃ (l_1 : Nat),
  ∃ (c_1 : Nat),
  Ld Go.Proofs.Try.prog (56 : Nat) w' (Addr.mk b (0 : Nat) none)
  (Value.agg #[Value.slice a l c, Value.slice a_2 l_1 c_1]) ∧
  ∃ (i_3 : Int),
  ∃ (s_4 : ByteArray),
  ∃ (a_3 : Option Addr),
  ∃ (l_2 : Nat),
  ∃ (c_2 : Nat),
  Ld Go.Proofs.Try.prog (51 : Nat) w' (Addr.mk b_1 (0 : Nat) none)
  (Value.agg
  #[Value.int IntKind.i64 i_3, Value.string s_4,
  Value.slice a_3 l_2 c_2]) ∧
  CallV Go.Proofs.Try.prog (24 : Nat)
  [Value.agg #[Value.slice a l c, Value.slice a_2 l_1 c_1],
  Value.agg
  #[Value.int IntKind.i64 i_3, Value.string s_4,
  Value.slice a_3 l_2 c_2],
  Value.int IntKind.i64 i]
  w' fun (e : Ending) (w' : World) ↦
  ∃ (a : Option Addr),
  ∃ (l : Nat),
  ∃ (c : Nat),
  ∃ (a_4 : Option Addr),
  ∃ (l_3 : Nat),
  ∃ (c_3 : Nat),
  e =
  Ending.returned
  (Value.agg
  #[Value.slice a l c,
  Value.slice a_4 l_3 c_3]) ∧
  ∃ (w1 : World),
  St Go.Proofs.Try.prog (56 : Nat) w'
  (Addr.mk b (0 : Nat) none)
  (Value.agg
  #[Value.slice a l c,
  Value.slice a_4 l_3 c_3])
  w1 ∧
  ∃ (a : Option Addr),
  ∃ (l : Nat),
  ∃ (c : Nat),
  Ld Go.Proofs.Try.prog (49 : Nat)
  (World.drew w1)
  (Addr.mk b (0 : Nat) none)
  (Value.slice a l c) ∧
  CallV Go.Proofs.Try.prog (21 : Nat)
  [Value.pointer p_1]
  (World.drew w1)
  fun (e : Ending) (w' : World) ↦
  ∃ (a_5 : Option Addr),
  ∃ (l_4 : Nat),
  ∃ (c_4 : Nat),
  e =
  Ending.returned
  (Value.slice a_5 l_4
  c_4) ∧
  Ld Go.Proofs.Try.prog
  (49 : Nat) w'
  (Addr.mk b (0 : Nat)
  none)
  (Value.slice a l c) ∧
  CallV Go.Proofs.Try.prog
  (22 : Nat)
  [Value.slice a_5 l_4
  c_4,
  Value.slice a l c]
  w'
  fun (e : Ending)
  (w' : World) ↦
  ∃ (b_3 : Bool),
  e =
  Ending.returned
  (Value.bool
  b_3) ∧
  br (!b_3)
  (R
  (Ending.returned
  (Value.bool
  false))
  w')
  (∃ (a :
  Option Addr),
  ∃ (l : Nat),
  ∃ (c : Nat),
  Ld
  Go.Proofs.Try.prog
  (49 :
  Nat)
  w'
  (Addr.mk
  b
  (0 :
  Nat)
  none)
  (Value.slice
  a l
  c) ∧
  CallV
  Go.Proofs.Try.prog
  (13 :
  Nat)
  [Value.pointer
  p_1]
  w'
  fun
  (e :
  Ending)
  (w' :
  World) ↦
  ∃ (i :
  Int),
  e =
  Ending.returned
  (Value.int
  IntKind.i64
  i) ∧
  Ld
  Go.Proofs.Try.prog
  (49 :
  Nat)
  w'
  (Addr.mk
  b
  (0 :
  Nat)
  none)
  (Value.slice
  a
  l
  c) ∧
  br
  (!decide
  (i =
  (↑l :
  Int)))
  (R
  (Ending.returned
  (Value.bool
  false))
  w')
  (∃
  (a
  :
  Option
  Addr),
  ∃
  (l
  :
  Nat),
  ∃
  (c
  :
  Nat),
  Ld
  Go.Proofs.Try.prog
  (49 :
  Nat)
  w'
  (Addr.mk
  b
  (1 :
  Nat)
  none)
  (Value.slice
  a
  l
  c) ∧
  CallV
  Go.Proofs.Try.prog
  (12 :
  Nat)
  [Value.pointer
  p_1]
  w'
  fun
  (e :
  Ending)
  (w' :
  World) ↦
  ∃
  (i
  :
  Int),
  e =
  Ending.returned
  (Value.int
  IntKind.i64
  i) ∧
  Ld
  Go.Proofs.Try.prog
  (49 :
  Nat)
  w'
  (Addr.mk
  b
  (1 :
  Nat)
  none)
  (Value.slice
  a
  l
  c) ∧
  br
  (!decide
  (i =
  (↑l :
  Int)))
  (R
  (Ending.returned
  (Value.bool
  false))
  w')
  (CallV
  Go.Proofs.Try.prog
  (14 :
  Nat)
  [Value.pointer
  p_1]
  w'
  fun
  (e :
  Ending)
  (w' :
  World) ↦
  ∃
  (i
  :
  Int),
  e =
  Ending.returned
  (Value.int
  IntKind.i64
  i) ∧
  br
  (!decide
  (i =
  (0 :
  Int)))
  (R
  (Ending.returned
  (Value.bool
  false))
  w')
  (inR
  IntKind.i64
  (s +
  (1 :
  Int)) ∧
  next
  (s +
  (1 :
  Int))
  w')))))))
  (br (!false == decide (i = (101 : Int))) (R (Ending.returned (Value.bool false)) w')
  (br (!decide (i = (0 : Int))) (R (Ending.returned (Value.bool false)) w')
  (∃ (a : Option Addr),
  ∃ (l : Nat),
  ∃ (c : Nat),
  ∃ (a_2 : Option Addr),
  ∃ (l_1 : Nat),
  ∃ (c_1 : Nat),
  Ld Go.Proofs.Try.prog (56 : Nat) w' (Addr.mk b (0 : Nat) none)
  (Value.agg #[Value.slice a l c, Value.slice a_2 l_1 c_1]) ∧
  ∃ (i_3 : Int),
  ∃ (s_4 : ByteArray),
  ∃ (a_3 : Option Addr),
  ∃ (l_2 : Nat),
  ∃ (c_2 : Nat),
  Ld Go.Proofs.Try.prog (51 : Nat) w' (Addr.mk b_1 (0 : Nat) none)
  (Value.agg
  #[Value.int IntKind.i64 i_3, Value.string s_4, Value.slice a_3 l_2 c_2]) ∧
  CallV Go.Proofs.Try.prog (24 : Nat)
  [Value.agg #[Value.slice a l c, Value.slice a_2 l_1 c_1],
  Value.agg
  #[Value.int IntKind.i64 i_3, Value.string s_4, Value.slice a_3 l_2 c_2],
  Value.int IntKind.i64 i]
  w' fun (e : Ending) (w' : World) ↦
  ∃ (a : Option Addr),
  ∃ (l : Nat),
  ∃ (c : Nat),
  ∃ (a_4 : Option Addr),
  ∃ (l_3 : Nat),
  ∃ (c_3 : Nat),
  e =
  Ending.returned
  (Value.agg
  #[Value.slice a l c, Value.slice a_4 l_3 c_3]) ∧
  ∃ (w1 : World),
  St Go.Proofs.Try.prog (56 : Nat) w' (Addr.mk b (0 : Nat) none)
  (Value.agg
  #[Value.slice a l c, Value.slice a_4 l_3 c_3])
  w1 ∧
  ∃ (a : Option Addr),
  ∃ (l : Nat),
  ∃ (c : Nat),
  Ld Go.Proofs.Try.prog (49 : Nat) (World.drew w1)
  (Addr.mk b (0 : Nat) none) (Value.slice a l c) ∧
  CallV Go.Proofs.Try.prog (21 : Nat)
  [Value.pointer p_1] (World.drew w1)
  fun (e : Ending) (w' : World) ↦
  ∃ (a_5 : Option Addr),
  ∃ (l_4 : Nat),
  ∃ (c_4 : Nat),
  e =
  Ending.returned
  (Value.slice a_5 l_4 c_4) ∧
  Ld Go.Proofs.Try.prog (49 : Nat) w'
  (Addr.mk b (0 : Nat) none)
  (Value.slice a l c) ∧
  CallV Go.Proofs.Try.prog (22 : Nat)
  [Value.slice a_5 l_4 c_4,
  Value.slice a l c]
  w' fun (e : Ending) (w' : World) ↦
  ∃ (b_2 : Bool),
  e =
  Ending.returned
  (Value.bool b_2) ∧
  br (!b_2)
  (R
  (Ending.returned
  (Value.bool false))
  w')
  (∃ (a : Option Addr),
  ∃ (l : Nat),
  ∃ (c : Nat),
  Ld Go.Proofs.Try.prog
  (49 : Nat) w'
  (Addr.mk b (0 : Nat)
  none)
  (Value.slice a l
  c) ∧
  CallV Go.Proofs.Try.prog
  (13 : Nat)
  [Value.pointer p_1]
  w'
  fun (e : Ending)
  (w' : World) ↦
  ∃ (i : Int),
  e =
  Ending.returned
  (Value.int
  IntKind.i64
  i) ∧
  Ld
  Go.Proofs.Try.prog
  (49 : Nat)
  w'
  (Addr.mk b
  (0 : Nat)
  none)
  (Value.slice
  a l c) ∧
  br
  (!decide
  (i =
  (↑l :
  Int)))
  (R
  (Ending.returned
  (Value.bool
  false))
  w')
  (∃ (a :
  Option
  Addr),
  ∃ (l :
  Nat),
  ∃ (c :
  Nat),
  Ld
  Go.Proofs.Try.prog
  (49 :
  Nat)
  w'
  (Addr.mk
  b
  (1 :
  Nat)
  none)
  (Value.slice
  a
  l
  c) ∧
  CallV
  Go.Proofs.Try.prog
  (12 :
  Nat)
  [Value.pointer
  p_1]
  w'
  fun
  (e :
  Ending)
  (w' :
  World) ↦
  ∃
  (i
  :
  Int),
  e =
  Ending.returned
  (Value.int
  IntKind.i64
  i) ∧
  Ld
  Go.Proofs.Try.prog
  (49 :
  Nat)
  w'
  (Addr.mk
  b
  (1 :
  Nat)
  none)
  (Value.slice
  a
  l
  c) ∧
  br
  (!decide
  (i =
  (↑l :
  Int)))
  (R
  (Ending.returned
  (Value.bool
  false))
  w')
  (CallV
  Go.Proofs.Try.prog
  (14 :
  Nat)
  [Value.pointer
  p_1]
  w'
  fun
  (e :
  Ending)
  (w' :
  World) ↦
  ∃
  (i
  :
  Int),
  e =
  Ending.returned
  (Value.int
  IntKind.i64
  i) ∧
  br
  (!decide
  (i =
  (0 :
  Int)))
  (R
  (Ending.returned
  (Value.bool
  false))
  w')
  (inR
  IntKind.i64
  (s +
  (1 :
  Int)) ∧
  next
  (s +
  (1 :
  Int))
  w')))))))))
  (∃ (i_2 : Int),
  Ld Go.Proofs.Try.prog (3 : Nat) w' (Addr.mk b_1 (0 : Nat) none) (Value.int IntKind.i64 i_2) ∧
  br (decide (i_2 = (2 : Int)))
  (∃ (a : Option Addr),
  ∃ (l : Nat),
  ∃ (c : Nat),
  Ld Go.Proofs.Try.prog (49 : Nat) w' (Addr.mk b_1 (2 : Nat) none) (Value.slice a l c) ∧
  CallV Go.Proofs.Try.prog (23 : Nat) [Value.slice a l c] w' fun (e : Ending) (w' : World) ↦
  ∃ (b_2 : Bool),
  e = Ending.returned (Value.bool b_2) ∧
  br (!b_2 == decide (i = (101 : Int))) (R (Ending.returned (Value.bool false)) w')
  (br (!b_2)
  (br (!decide (i = (0 : Int))) (R (Ending.returned (Value.bool false)) w')
  (∃ (a : Option Addr),
  ∃ (l : Nat),
  ∃ (c : Nat),
  ∃ (a_2 : Option Addr),
  ∃ (l_1 : Nat),
  ∃ (c_1 : Nat),
  Ld Go.Proofs.Try.prog (56 : Nat) w' (Addr.mk b (0 : Nat) none)
  (Value.agg #[Value.slice a l c, Value.slice a_2 l_1 c_1]) ∧
  ∃ (i_3 : Int),
  ∃ (s_3 : ByteArray),
  ∃ (a_3 : Option Addr),
  ∃ (l_2 : Nat),
  ∃ (c_2 : Nat),
  Ld Go.Proofs.Try.prog (51 : Nat) w' (Addr.mk b_1 (0 : Nat) none)
  (Value.agg
  #[Value.int IntKind.i64 i_3, Value.string s_3,
  Value.slice a_3 l_2 c_2]) ∧
  CallV Go.Proofs.Try.prog (24 : Nat)
  [Value.agg #[Value.slice a l c, Value.slice a_2 l_1 c_1],
  Value.agg
  #[Value.int IntKind.i64 i_3, Value.string s_3,
  Value.slice a_3 l_2 c_2],
  Value.int IntKind.i64 i]
  w' fun (e : Ending) (w' : World) ↦
  ∃ (a : Option Addr),
  ∃ (l : Nat),
  ∃ (c : Nat),
  ∃ (a_4 : Option Addr),
  ∃ (l_3 : Nat),
  ∃ (c_3 : Nat),
  e =
  Ending.returned
  (Value.agg
  #[Value.slice a l c,
  Value.slice a_4 l_3 c_3]) ∧
  ∃ (w1 : World),
  St Go.Proofs.Try.prog (56 : Nat) w'
  (Addr.mk b (0 : Nat) none)
  (Value.agg
  #[Value.slice a l c,
  Value.slice a_4 l_3 c_3])
  w1 ∧
  ∃ (a : Option Addr),
  ∃ (l : Nat),
  ∃ (c : Nat),
  Ld Go.Proofs.Try.prog (49 : Nat)
  (World.drew w1)
  (Addr.mk b (0 : Nat) none)
  (Value.slice a l c) ∧
  CallV Go.Proofs.Try.prog (21 : Nat)
  [Value.pointer p_1] (World.drew w1)
  fun (e : Ending) (w' : World) ↦
  ∃ (a_5 : Option Addr),
  ∃ (l_4 : Nat),
  ∃ (c_4 : Nat),
  e =
  Ending.returned
  (Value.slice a_5 l_4
  c_4) ∧
  Ld Go.Proofs.Try.prog (49 : Nat)
  w'
  (Addr.mk b (0 : Nat) none)
  (Value.slice a l c) ∧
  CallV Go.Proofs.Try.prog
  (22 : Nat)
  [Value.slice a_5 l_4 c_4,
  Value.slice a l c]
  w'
  fun (e : Ending)
  (w' : World) ↦
  ∃ (b_3 : Bool),
  e =
  Ending.returned
  (Value.bool b_3) ∧
  br (!b_3)
  (R
  (Ending.returned
  (Value.bool
  false))
  w')
  (∃ (a :
  Option Addr),
  ∃ (l : Nat),
  ∃ (c : Nat),
  Ld
  Go.Proofs.Try.prog
  (49 : Nat)
  w'
  (Addr.mk b
  (0 :
  Nat)
  none)
  (Value.slice
  a l c) ∧
  CallV
  Go.Proofs.Try.prog
  (13 : Nat)
  [Value.pointer
  p_1]
  w'
  fun
  (e :
  Ending)
  (w' :
  World) ↦
  ∃ (i :
  Int),
  e =
  Ending.returned
  (Value.int
  IntKind.i64
  i) ∧
  Ld
  Go.Proofs.Try.prog
  (49 :
  Nat)
  w'
  (Addr.mk
  b
  (0 :
  Nat)
  none)
  (Value.slice
  a
  l
  c) ∧
  br
  (!decide
  (i =
  (↑l :
  Int)))
  (R
  (Ending.returned
  (Value.bool
  false))
  w')
  (∃
  (a
  :
  Option
  Addr),
  ∃
  (l
  :
  Nat),
  ∃
  (c
  :
  Nat),
  Ld
  Go.Proofs.Try.prog
  (49 :
  Nat)
  w'
  (Addr.mk
  b
  (1 :
  Nat)
  none)
  (Value.slice
  a
  l
  c) ∧
  CallV
  Go.Proofs.Try.prog
  (12 :
  Nat)
  [Value.pointer
  p_1]
  w'
  fun
  (e :
  Ending)
  (w' :
  World) ↦
  ∃
  (i
  :
  Int),
  e =
  Ending.returned
  (Value.int
  IntKind.i64
  i) ∧
  Ld
  Go.Proofs.Try.prog
  (49 :
  Nat)
  w'
  (Addr.mk
  b
  (1 :
  Nat)
  none)
  (Value.slice
  a
  l
  c) ∧
  br
  (!decide
  (i =
  (↑l :
  Int)))
  (R
  (Ending.returned
  (Value.bool
  false))
  w')
  (CallV
  Go.Proofs.Try.prog
  (14 :
  Nat)
  [Value.pointer
  p_1]
  w'
  fun
  (e :
  Ending)
  (w' :
  World) ↦
  ∃
  (i
  :
  Int),
  e =
  Ending.returned
  (Value.int
  IntKind.i64
  i) ∧
  br
  (!decide
  (i =
  (0 :
  Int)))
  (R
  (Ending.returned
  (Value.bool
  false))
  w')
  (inR
  IntKind.i64
  (s +
  (1 :
  Int)) ∧
  next
  (s +
  (1 :
  Int))
  w'))))))
  (∃ (a : Option Addr),
  ∃ (l : Nat),
  ∃ (c : Nat),
  ∃ (a_2 : Option Addr),
  ∃ (l_1 : Nat),
  ∃ (c_1 : Nat),
  Ld Go.Proofs.Try.prog (56 : Nat) w' (Addr.mk b (0 : Nat) none)
  (Value.agg #[Value.slice a l c, Value.slice a_2 l_1 c_1]) ∧
  ∃ (i_3 : Int),
  ∃ (s_3 : ByteArray),
  ∃ (a_3 : Option Addr),
  ∃ (l_2 : Nat),
  ∃ (c_2 : Nat),
  Ld Go.Proofs.Try.prog (51 : Nat) w' (Addr.mk b_1 (0 : Nat) none)
  (Value.agg
  #[Value.int IntKind.i64 i_3, Value.string s_3,
  Value.slice a_3 l_2 c_2]) ∧
  CallV Go.Proofs.Try.prog (24 : Nat)
  [Value.agg #[Value.slice a l c, Value.slice a_2 l_1 c_1],
  Value.agg
  #[Value.int IntKind.i64 i_3, Value.string s_3,
  Value.slice a_3 l_2 c_2],
  Value.int IntKind.i64 i]
  w' fun (e : Ending) (w' : World) ↦
  ∃ (a : Option Addr),
  ∃ (l : Nat),
  ∃ (c : Nat),
  ∃ (a_4 : Option Addr),
  ∃ (l_3 : Nat),
  ∃ (c_3 : Nat),
  e =
  Ending.returned
  (Value.agg
  #[Value.slice a l c, Value.slice a_4 l_3 c_3]) ∧
  ∃ (w1 : World),
  St Go.Proofs.Try.prog (56 : Nat) w'
  (Addr.mk b (0 : Nat) none)
  (Value.agg
  #[Value.slice a l c, Value.slice a_4 l_3 c_3])
  w1 ∧
  ∃ (a : Option Addr),
  ∃ (l : Nat),
  ∃ (c : Nat),
  Ld Go.Proofs.Try.prog (49 : Nat)
  (World.drew w1)
  (Addr.mk b (0 : Nat) none)
  (Value.slice a l c) ∧
  CallV Go.Proofs.Try.prog (21 : Nat)
  [Value.pointer p_1] (World.drew w1)
  fun (e : Ending) (w' : World) ↦
  ∃ (a_5 : Option Addr),
  ∃ (l_4 : Nat),
  ∃ (c_4 : Nat),
  e =
  Ending.returned
  (Value.slice a_5 l_4 c_4) ∧
  Ld Go.Proofs.Try.prog (49 : Nat) w'
  (Addr.mk b (0 : Nat) none)
  (Value.slice a l c) ∧
  CallV Go.Proofs.Try.prog
  (22 : Nat)
  [Value.slice a_5 l_4 c_4,
  Value.slice a l c]
  w'
  fun (e : Ending)
  (w' : World) ↦
  ∃ (b_3 : Bool),
  e =
  Ending.returned
  (Value.bool b_3) ∧
  br (!b_3)
  (R
  (Ending.returned
  (Value.bool
  false))
  w')
  (∃ (a : Option Addr),
  ∃ (l : Nat),
  ∃ (c : Nat),
  Ld
  Go.Proofs.Try.prog
  (49 : Nat)
  w'
  (Addr.mk b
  (0 : Nat)
  none)
  (Value.slice
  a l c) ∧
  CallV
  Go.Proofs.Try.prog
  (13 : Nat)
  [Value.pointer
  p_1]
  w'
  fun
  (e :
  Ending)
  (w' :
  World) ↦
  ∃ (i : Int),
  e =
  Ending.returned
  (Value.int
  IntKind.i64
  i) ∧
  Ld
  Go.Proofs.Try.prog
  (49 :
  Nat)
  w'
  (Addr.mk
  b
  (0 :
  Nat)
  none)
  (Value.slice
  a
  l
  c) ∧
  br
  (!decide
  (i =
  (↑l :
  Int)))
  (R
  (Ending.returned
  (Value.bool
  false))
  w')
  (∃
  (a
  :
  Option
  Addr),
  ∃
  (l
  :
  Nat),
  ∃
  (c
  :
  Nat),
  Ld
  Go.Proofs.Try.prog
  (49 :
  Nat)
  w'
  (Addr.mk
  b
  (1 :
  Nat)
  none)
  (Value.slice
  a
  l
  c) ∧
  CallV
  Go.Proofs.Try.prog
  (12 :
  Nat)
  [Value.pointer
  p_1]
  w'
  fun
  (e :
  Ending)
  (w' :
  World) ↦
  ∃
  (i
  :
  Int),
  e =
  Ending.returned
  (Value.int
  IntKind.i64
  i) ∧
  Ld
  Go.Proofs.Try.prog
  (49 :
  Nat)
  w'
  (Addr.mk
  b
  (1 :
  Nat)
  none)
  (Value.slice
  a
  l
  c) ∧
  br
  (!decide
  (i =
  (↑l :
  Int)))
  (R
  (Ending.returned
  (Value.bool
  false))
  w')
  (CallV
  Go.Proofs.Try.prog
  (14 :
  Nat)
  [Value.pointer
  p_1]
  w'
  fun
  (e :
  Ending)
  (w' :
  World) ↦
  ∃
  (i
  :
  Int),
  e =
  Ending.returned
  (Value.int
  IntKind.i64
  i) ∧
  br
  (!decide
  (i =
  (0 :
  Int)))
  (R
  (Ending.returned
  (Value.bool
  false))
  w')
  (inR
  IntKind.i64
  (s +
  (1 :
  Int)) ∧
  next
  (s +
  (1 :
  Int))
  w')))))))
  (br (!false == decide (i = (101 : Int))) (R (Ending.returned (Value.bool false)) w')
  (br (!decide (i = (0 : Int))) (R (Ending.returned (Value.bool false)) w')
  (∃ (a : Option Addr),
  ∃ (l : Nat),
  ∃ (c : Nat),
  ∃ (a_2 : Option Addr),
  ∃ (l_1 : Nat),
  ∃ (c_1 : Nat),
  Ld Go.Proofs.Try.prog (56 : Nat) w' (Addr.mk b (0 : Nat) none)
  (Value.agg #[Value.slice a l c, Value.slice a_2 l_1 c_1]) ∧
  ∃ (i_3 : Int),
  ∃ (s_3 : ByteArray),
  ∃ (a_3 : Option Addr),
  ∃ (l_2 : Nat),
  ∃ (c_2 : Nat),
  Ld Go.Proofs.Try.prog (51 : Nat) w' (Addr.mk b_1 (0 : Nat) none)
  (Value.agg
  #[Value.int IntKind.i64 i_3, Value.string s_3, Value.slice a_3 l_2 c_2]) ∧
  CallV Go.Proofs.Try.prog (24 : Nat)
  [Value.agg #[Value.slice a l c, Value.slice a_2 l_1 c_1],
  Value.agg
  #[Value.int IntKind.i64 i_3, Value.string s_3, Value.slice a_3 l_2 c_2],
  Value.int IntKind.i64 i]
  w' fun (e : Ending) (w' : World) ↦
  ∃ (a : Option Addr),
  ∃ (l : Nat),
  ∃ (c : Nat),
  ∃ (a_4 : Option Addr),
  ∃ (l_3 : Nat),
  ∃ (c_3 : Nat),
  e =
  Ending.returned
  (Value.agg #[Value.slice a l c, Value.slice a_4 l_3 c_3]) ∧
  ∃ (w1 : World),
  St Go.Proofs.Try.prog (56 : Nat) w' (Addr.mk b (0 : Nat) none)
  (Value.agg #[Value.slice a l c, Value.slice a_4 l_3 c_3]) w1 ∧
  ∃ (a : Option Addr),
  ∃ (l : Nat),
  ∃ (c : Nat),
  Ld Go.Proofs.Try.prog (49 : Nat) (World.drew w1)
  (Addr.mk b (0 : Nat) none) (Value.slice a l c) ∧
  CallV Go.Proofs.Try.prog (21 : Nat) [Value.pointer p_1]
  (World.drew w1) fun (e : Ending) (w' : World) ↦
  ∃ (a_5 : Option Addr),
  ∃ (l_4 : Nat),
  ∃ (c_4 : Nat),
  e = Ending.returned (Value.slice a_5 l_4 c_4) ∧
  Ld Go.Proofs.Try.prog (49 : Nat) w'
  (Addr.mk b (0 : Nat) none)
  (Value.slice a l c) ∧
  CallV Go.Proofs.Try.prog (22 : Nat)
  [Value.slice a_5 l_4 c_4,
  Value.slice a l c]
  w' fun (e : Ending) (w' : World) ↦
  ∃ (b_2 : Bool),
  e = Ending.returned (Value.bool b_2) ∧
  br (!b_2)
  (R
  (Ending.returned
  (Value.bool false))
  w')
  (∃ (a : Option Addr),
  ∃ (l : Nat),
  ∃ (c : Nat),
  Ld Go.Proofs.Try.prog (49 : Nat)
  w'
  (Addr.mk b (0 : Nat) none)
  (Value.slice a l c) ∧
  CallV Go.Proofs.Try.prog
  (13 : Nat)
  [Value.pointer p_1] w'
  fun (e : Ending)
  (w' : World) ↦
  ∃ (i : Int),
  e =
  Ending.returned
  (Value.int
  IntKind.i64 i) ∧
  Ld Go.Proofs.Try.prog
  (49 : Nat) w'
  (Addr.mk b
  (0 : Nat) none)
  (Value.slice a l
  c) ∧
  br
  (!decide
  (i =
  (↑l : Int)))
  (R
  (Ending.returned
  (Value.bool
  false))
  w')
  (∃ (a :
  Option Addr),
  ∃ (l : Nat),
  ∃ (c : Nat),
  Ld
  Go.Proofs.Try.prog
  (49 :
  Nat)
  w'
  (Addr.mk
  b
  (1 :
  Nat)
  none)
  (Value.slice
  a l
  c) ∧
  CallV
  Go.Proofs.Try.prog
  (12 :
  Nat)
  [Value.pointer
  p_1]
  w'
  fun
  (e :
  Ending)
  (w' :
  World) ↦
  ∃ (i :
  Int),
  e =
  Ending.returned
  (Value.int
  IntKind.i64
  i) ∧
  Ld
  Go.Proofs.Try.prog
  (49 :
  Nat)
  w'
  (Addr.mk
  b
  (1 :
  Nat)
  none)
  (Value.slice
  a
  l
  c) ∧
  br
  (!decide
  (i =
  (↑l :
  Int)))
  (R
  (Ending.returned
  (Value.bool
  false))
  w')
  (CallV
  Go.Proofs.Try.prog
  (14 :
  Nat)
  [Value.pointer
  p_1]
  w'
  fun
  (e :
  Ending)
  (w' :
  World) ↦
  ∃
  (i
  :
  Int),
  e =
  Ending.returned
  (Value.int
  IntKind.i64
  i) ∧
  br
  (!decide
  (i =
  (0 :
  Int)))
  (R
  (Ending.returned
  (Value.bool
  false))
  w')
  (inR
  IntKind.i64
  (s +
  (1 :
  Int)) ∧
  next
  (s +
  (1 :
  Int))
  w')))))))))
  (CallV Go.Proofs.Try.prog (11 : Nat) [Value.pointer p, Value.string (ByteArray.mk #[(108 : UInt8), (111 : UInt8), (103 : UInt8)])] w' fun (e : Ending) (w' : World) ↦
  ∃ (p : Option Addr),
  ∃ (i : Int),
  e = Ending.returned (Value.tuple #[Value.pointer p, Value.int IntKind.i64 i]) ∧
  CallV Go.Proofs.Try.prog (8 : Nat) [] (World.drew w') fun (e : Ending) (w' : World) ↦
  ∃ (b_1 : Bool),
  e = Ending.returned (Value.bool b_1) ∧
  br b_1
  (br (decide (i = (0 : Int)))
  (∃ (a : Option Addr),
  ∃ (l : Nat),
  ∃ (c : Nat),
  Ld Go.Proofs.Try.prog (49 : Nat) w' (Addr.mk b (1 : Nat) none) (Value.slice a l c) ∧
  CallV Go.Proofs.Try.prog (21 : Nat) [Value.pointer p] w' fun (e : Ending) (w' : World) ↦
  ∃ (a_1 : Option Addr),
  ∃ (l_1 : Nat),
  ∃ (c_1 : Nat),
  e = Ending.returned (Value.slice a_1 l_1 c_1) ∧
  Ld Go.Proofs.Try.prog (49 : Nat) w' (Addr.mk b (1 : Nat) none) (Value.slice a l c) ∧
  CallV Go.Proofs.Try.prog (22 : Nat) [Value.slice a_1 l_1 c_1, Value.slice a l c] w' fun (e : Ending) (w' : World) ↦
  ∃ (b_2 : Bool),
  e = Ending.returned (Value.bool b_2) ∧
  br b_2
  (∃ (a : Option Addr),
  ∃ (l : Nat),
  ∃ (c : Nat),
  Ld Go.Proofs.Try.prog (49 : Nat) w' (Addr.mk b (1 : Nat) none) (Value.slice a l c) ∧
  CallV Go.Proofs.Try.prog (12 : Nat) [Value.pointer p] w' fun (e : Ending) (w' : World) ↦
  ∃ (i : Int),
  e = Ending.returned (Value.int IntKind.i64 i) ∧
  Ld Go.Proofs.Try.prog (49 : Nat) w' (Addr.mk b (1 : Nat) none) (Value.slice a l c) ∧
  R (Ending.returned (Value.bool (decide (i = (↑l : Int))))) w')
  (R (Ending.returned (Value.bool false)) w'))
  (R (Ending.returned (Value.bool false)) w'))
  (R (Ending.returned (Value.bool false)) w')))
  (0 : Int) w1))
theorem redoAll.eq (scripta : Option Addr) (scriptn : Nat) (scriptc : Nat) (w : World) (R : Ending → World → Prop) : bodyV Go.Proofs.Try.prog redoAll.an Go.Proofs.Try.f6 [.slice scripta scriptn scriptc] w R = redoAll.vc scripta scriptn scriptc w R := by kernel_rfl
theorem redoAll.ok (scripta : Option Addr) (scriptn : Nat) (scriptc : Nat) (w : World) (R : Ending → World → Prop) (h : redoAll.vc scripta scriptn scriptc w R) : Calls Go.Proofs.Try.prog 6 #[.slice scripta scriptn scriptc] w R :=
  calls_of_bodyV noNum (an := redoAll.an) (args := [.slice scripta scriptn scriptc]) Go.Proofs.Try.func6 (by kernel_rfl) ((redoAll.eq scripta scriptn scriptc w R).mpr h)


end Go.Proofs.Ytjbopmbffajknaa
