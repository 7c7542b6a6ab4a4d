/- Of each function the statement that the calculus reckons, printed by a program, and that it is that statement. -/
import Derived.Test.YtdpkamajecmebaaVcCode
import Derived.Test.YtdpkamajecmebaaChecked
set_option linter.unusedVariables false
set_option maxRecDepth 100000
namespace Go.Proofs.Ytdpkamajecmebaa
open Go Go.Vc

/-- no function bears the name that the model takes apart -/
theorem noNum : NoNum Go.Proofs.Try.prog := by
  have h : Go.Proofs.Try.prog.funcs.toList.all (fun fn => !(fn.name == "runtime.NumGoroutine")) = true := by kernel_rfl
  intro f fn hf
  have := List.all_eq_true.1 h fn (by have := Array.mem_of_getElem? hf; simpa using this)
  simpa using this

/-- incunable/vault.New -/
def new.an : An := { wraps := [], loops := [], joins := [], ranges := [] }
def new.vc (room : Int) (w : World) (R : Ending → World → Prop) : Prop :=
  ∀ (b : Nat) (w1 : World),
  New w (Obj.map #[] (0 : Nat)) b w1 →
  ∀ (b_1 : Nat) (w1_1 : World),
  New w1 (Obj.map #[] (0 : Nat)) b_1 w1_1 →
  ∀ (b_2 : Nat) (w1 : World),
  New w1_1
  (Obj.cells
  #[Value.int IntKind.i64 (min (max room (0 : Int)) (65536 : Int)), Value.slice none (0 : Nat) (0 : Nat), Value.map (some b), Value.map (some b_1), Value.slice none (0 : Nat) (0 : Nat),
  Value.int IntKind.i64 (0 : Int), Value.int IntKind.i64 (0 : Int), Value.bool false]
  (75 : Nat))
  b_2 w1 →
  R (Ending.returned (Value.pointer (some (Addr.mk b_2 (0 : Nat) none)))) w1
theorem new.eq (room : Int) (w : World) (R : Ending → World → Prop) : bodyV Go.Proofs.Try.prog new.an Go.Proofs.Try.f8 [.int .i64 room] w R = new.vc room w R := by kernel_rfl
theorem new.ok (room : Int) (w : World) (R : Ending → World → Prop) (h : new.vc room w R) : Calls Go.Proofs.Try.prog 8 #[.int .i64 room] w R :=
  calls_of_bodyV noNum (an := new.an) (args := [.int .i64 room]) Go.Proofs.Try.func8 (by kernel_rfl) ((new.eq room w R).mpr h)

/-- (*incunable/vault.Disk).Used -/
def used.an : An := { wraps := [], loops := [(3, [(3, .inl .i64)])], joins := [], ranges := [] }
def used.vc (d : Option Addr) (w : World) (R : Ending → World → Prop) : Prop :=
  onP d fun (a : Addr) ↦
  ∃ (m : Option Nat),
  Ld Go.Proofs.Try.prog (71 : Nat) w (Addr.add a (2 : Nat)) (Value.map m) ∧
  ∃ (p : Option Addr),
  ∃ (w1 : World),
  Rng Go.Proofs.Try.prog (71 : Nat) w (Value.map m) (Value.pointer p) w1 ∧
  LoopP
  (fun (s : Int) (w' : World) (next : Int → World → Prop) ↦
  (∃ (w1 : World), Nxt Go.Proofs.Try.prog false (0 : Nat) w' (Value.pointer p) (Value.tuple #[Value.bool false]) w1 ∧ R (Ending.returned (Value.int IntKind.i64 s)) w1) ∨
  ∃ (k : Value),
  ∃ (v : Value),
  ∃ (w1 : World),
  Nxt Go.Proofs.Try.prog false (0 : Nat) w' (Value.pointer p) (Value.tuple #[Value.bool true, k, v]) w1 ∧
  ∃ (v : Value),
  ∃ (i : Int),
  ∃ (w1_1 : World),
  Etr Go.Proofs.Try.prog w1 (Value.pointer p) (Value.tuple #[v, Value.int IntKind.i64 i]) w1_1 ∧
  onP d fun (a : Addr) ↦
  ∃ (a_1 : Option Addr),
  ∃ (l : Nat),
  ∃ (c : Nat),
  Ld Go.Proofs.Try.prog (72 : Nat) w1_1 (Addr.add a (1 : Nat)) (Value.slice a_1 l c) ∧
  onP a_1 fun (a : Addr) ↦
  ((0 : Int) ≤ i ∧ i < (↑l : Int)) ∧
  ∃ (p : Option Addr),
  Ld Go.Proofs.Try.prog (93 : Nat) w1_1 (Addr.add a (Int.toNat i * (1 : Nat))) (Value.pointer p) ∧
  onP p fun (a : Addr) ↦
  ∃ (a_2 : Option Addr),
  ∃ (l : Nat),
  ∃ (c : Nat), Ld Go.Proofs.Try.prog (95 : Nat) w1_1 a (Value.slice a_2 l c) ∧ inR IntKind.i64 (s + (↑l : Int)) ∧ next (s + (↑l : Int)) w1_1)
  (0 : Int) w1
theorem used.eq (d : Option Addr) (w : World) (R : Ending → World → Prop) : bodyV Go.Proofs.Try.prog used.an Go.Proofs.Try.f24 [.pointer d] w R = used.vc d w R := by kernel_rfl
theorem used.ok (d : Option Addr) (w : World) (R : Ending → World → Prop) (h : used.vc d w R) : Calls Go.Proofs.Try.prog 24 #[.pointer d] w R :=
  calls_of_bodyV noNum (an := used.an) (args := [.pointer d]) Go.Proofs.Try.func24 (by kernel_rfl) ((used.eq d w R).mpr h)

/-- (*incunable/vault.Disk).Arm -/
def arm.an : An := { wraps := [], loops := [], joins := [], ranges := [] }
def arm.vc (d : Option Addr) (k : Int) (w : World) (R : Ending → World → Prop) : Prop :=
  onP d fun (a : Addr) ↦ ∃ (w1 : World), St Go.Proofs.Try.prog (3 : Nat) w (Addr.add a (5 : Nat)) (Value.int IntKind.i64 (max k (0 : Int))) w1 ∧ R (Ending.returned (Value.tuple #[])) w1
theorem arm.eq (d : Option Addr) (k : Int) (w : World) (R : Ending → World → Prop) : bodyV Go.Proofs.Try.prog arm.an Go.Proofs.Try.f27 [.pointer d, .int .i64 k] w R = arm.vc d k w R := by kernel_rfl
theorem arm.ok (d : Option Addr) (k : Int) (w : World) (R : Ending → World → Prop) (h : arm.vc d k w R) : Calls Go.Proofs.Try.prog 27 #[.pointer d, .int .i64 k] w R :=
  calls_of_bodyV noNum (an := arm.an) (args := [.pointer d, .int .i64 k]) Go.Proofs.Try.func27 (by kernel_rfl) ((arm.eq d k w R).mpr h)

/-- (*incunable/vault.Disk).Deny -/
def deny.an : An := { wraps := [], loops := [], joins := [], ranges := [] }
def deny.vc (d : Option Addr) (k : Int) (w : World) (R : Ending → World → Prop) : Prop :=
  onP d fun (a : Addr) ↦ ∃ (w1 : World), St Go.Proofs.Try.prog (3 : Nat) w (Addr.add a (6 : Nat)) (Value.int IntKind.i64 (max k (0 : Int))) w1 ∧ R (Ending.returned (Value.tuple #[])) w1
theorem deny.eq (d : Option Addr) (k : Int) (w : World) (R : Ending → World → Prop) : bodyV Go.Proofs.Try.prog deny.an Go.Proofs.Try.f28 [.pointer d, .int .i64 k] w R = deny.vc d k w R := by kernel_rfl
theorem deny.ok (d : Option Addr) (k : Int) (w : World) (R : Ending → World → Prop) (h : deny.vc d k w R) : Calls Go.Proofs.Try.prog 28 #[.pointer d, .int .i64 k] w R :=
  calls_of_bodyV noNum (an := deny.an) (args := [.pointer d, .int .i64 k]) Go.Proofs.Try.func28 (by kernel_rfl) ((deny.eq d k w R).mpr h)

/-- (*incunable/vault.Disk).Create -/
def create.an : An := { wraps := [], loops := [], joins := [], ranges := [] }
def create.vc (d : Option Addr) (name : ByteArray) (w : World) (R : Ending → World → Prop) : Prop :=
  ∀ (b : Nat) (w1 : World),
  New w (Obj.cells #[Value.string name] (9 : Nat)) b w1 →
  onP d fun (a : Addr) ↦
  ∃ (b_1 : Bool),
  Ld Go.Proofs.Try.prog (4 : Nat) w1 (Addr.add a (7 : Nat)) (Value.bool b_1) ∧
  br b_1 (R (Ending.returned (Value.int IntKind.i64 (93 : Int))) w1)
  (∃ (s : ByteArray),
  Ld Go.Proofs.Try.prog (9 : Nat) w1 (Addr.mk b (0 : Nat) none) (Value.string s) ∧
  CallV Go.Proofs.Try.prog (42 : Nat) [Value.string s] w1 fun (e : Ending) (w' : World) ↦
  ∃ (b_2 : Bool),
  e = Ending.returned (Value.bool b_2) ∧
  br (!b_2) (R (Ending.returned (Value.int IntKind.i64 (92 : Int))) w')
  (onP d fun (a : Addr) ↦
  ∃ (a_1 : Option Addr),
  ∃ (l : Nat),
  ∃ (c : Nat),
  Ld Go.Proofs.Try.prog (72 : Nat) w' (Addr.add a (1 : Nat)) (Value.slice a_1 l c) ∧
  ∀ (b_3 : Nat) (w1 : World),
  New w' (Obj.cells #[Value.int IntKind.i64 (0 : Int)] (3 : Nat)) b_3 w1 →
  ∃ (w1_1 : World),
  St Go.Proofs.Try.prog (3 : Nat) w1 (Addr.mk b_3 (0 : Nat) none) (Value.int IntKind.i64 (↑l : Int)) w1_1 ∧
  onP d fun (a : Addr) ↦
  ∃ (a_2 : Option Addr),
  ∃ (l : Nat),
  ∃ (c : Nat),
  Ld Go.Proofs.Try.prog (72 : Nat) w1_1 (Addr.add a (1 : Nat)) (Value.slice a_2 l c) ∧
  ∀ (b_4 : Nat) (w1 : World),
  New w1_1 (Obj.map #[] (0 : Nat)) b_4 w1 →
  ∀ (b_5 : Nat) (w1_2 : World),
  New w1 (Obj.cells #[Value.slice none (0 : Nat) (0 : Nat), Value.slice none (0 : Nat) (0 : Nat), Value.map (some b_4)] (97 : Nat)) b_5 w1_2 →
  ∀ (b_6 : Nat) (w1 : World),
  New w1_2 (Obj.cells #[Value.pointer (some (Addr.mk b_5 (0 : Nat) none))] (93 : Nat)) b_6 w1 →
  ∃ (a : Option Addr),
  ∃ (n : Nat),
  ∃ (m : Nat),
  ∃ (w1_3 : World),
  App Go.Proofs.Try.prog #[(72 : Nat), (72 : Nat)] (72 : Nat) w1 (Value.slice a_2 l c)
  (Value.slice (some (Addr.mk b_6 (0 : Nat) none)) (1 : Nat) (1 : Nat)) (Value.slice a n m) w1_3 ∧
  onP d fun (a_3 : Addr) ↦
  ∃ (w1 : World),
  St Go.Proofs.Try.prog (72 : Nat) w1_3 (Addr.add a_3 (1 : Nat)) (Value.slice a n m) w1 ∧
  CallV Go.Proofs.Try.prog (43 : Nat)
  [Value.pointer d,
  Value.func (Fn.func (44 : Nat)) #[]
  #[Value.pointer (some (Addr.mk b_3 (0 : Nat) none)), Value.pointer (some (Addr.mk b (0 : Nat) none))]]
  w1 fun (e : Ending) (w' : World) ↦
  ∃ (i : Int), e = Ending.returned (Value.int IntKind.i64 i) ∧ R (Ending.returned (Value.int IntKind.i64 i)) w'))
theorem create.eq (d : Option Addr) (name : ByteArray) (w : World) (R : Ending → World → Prop) : bodyV Go.Proofs.Try.prog create.an Go.Proofs.Try.f18 [.pointer d, .string name] w R = create.vc d name w R := by kernel_rfl
theorem create.ok (d : Option Addr) (name : ByteArray) (w : World) (R : Ending → World → Prop) (h : create.vc d name w R) : Calls Go.Proofs.Try.prog 18 #[.pointer d, .string name] w R :=
  calls_of_bodyV noNum (an := create.an) (args := [.pointer d, .string name]) Go.Proofs.Try.func18 (by kernel_rfl) ((create.eq d name w R).mpr h)

/-- (*incunable/vault.Disk).Write -/
def write.an : An := { wraps := [], loops := [], joins := [], ranges := [] }
def write.vc (d : Option Addr) (name : ByteArray) (n : Int) (ba : Option Addr) (bn : Nat) (bc : Nat) (w : World) (R : Ending → World → Prop) : Prop :=
  CallV Go.Proofs.Try.prog (45 : Nat) [Value.pointer d, Value.string name] w fun (e : Ending) (w' : World) ↦
  ∃ (p : Option Addr),
  e = Ending.returned (Value.pointer p) ∧
  onP d fun (a : Addr) ↦
  ∃ (b : Bool),
  Ld Go.Proofs.Try.prog (4 : Nat) w' (Addr.add a (7 : Nat)) (Value.bool b) ∧
  br b (R (Ending.returned (Value.int IntKind.i64 (93 : Int))) w')
  (∃ (b : Bool),
  Eqv Go.Proofs.Try.prog BinOp.eql (93 : Nat) (Operand.tmp (20 : Nat)) (Operand.const (Value.pointer none)) w' (Value.pointer p) (Value.pointer none) b ∧
  br b (R (Ending.returned (Value.int IntKind.i64 (90 : Int))) w')
  (br (decide (n < (0 : Int))) (R (Ending.returned (Value.int IntKind.i64 (91 : Int))) w')
  (onP p fun (a : Addr) ↦
  ∃ (a_1 : Option Addr),
  ∃ (l : Nat),
  ∃ (c : Nat),
  Ld Go.Proofs.Try.prog (95 : Nat) w' a (Value.slice a_1 l c) ∧
  br (decide ((↑l : Int) < n)) (R (Ending.returned (Value.int IntKind.i64 (91 : Int))) w')
  (br (decide ((512 : Int) < (↑bn : Int))) (R (Ending.returned (Value.int IntKind.i64 (91 : Int))) w')
  (onP p fun (a : Addr) ↦
  ∃ (a_2 : Option Addr),
  ∃ (l : Nat),
  ∃ (c : Nat),
  Ld Go.Proofs.Try.prog (95 : Nat) (World.drew w') a (Value.slice a_2 l c) ∧
  br (decide (n = (↑l : Int)))
  (onP d fun (a : Addr) ↦
  ∃ (i : Int),
  Ld Go.Proofs.Try.prog (3 : Nat) (World.drew w') a (Value.int IntKind.i64 i) ∧
  CallV Go.Proofs.Try.prog (24 : Nat) [Value.pointer d] (World.drew w') fun (e : Ending) (w' : World) ↦
  ∃ (i_1 : Int),
  e = Ending.returned (Value.int IntKind.i64 i_1) ∧
  Ld Go.Proofs.Try.prog (3 : Nat) w' a (Value.int IntKind.i64 i) ∧
  br (decide (i ≤ i_1)) (R (Ending.returned (Value.int IntKind.i64 (94 : Int))) w')
  (CallV Go.Proofs.Try.prog (46 : Nat) [Value.pointer d] w' fun (e : Ending) (w' : World) ↦
  ∃ (b : Bool),
  e = Ending.returned (Value.bool b) ∧
  br b (R (Ending.returned (Value.int IntKind.i64 (95 : Int))) w')
  (∀ (b : Nat) (w1 : World),
  New w' (Obj.cells (List.toArray (zl Go.Proofs.Try.prog (102 : Nat))) (102 : Nat)) b w1 →
  ∃ (n_1 : Int),
  ∃ (w1_1 : World),
  Cpy Go.Proofs.Try.prog #[(46 : Nat), (46 : Nat)] (3 : Nat) w1
  (Value.slice (some (Addr.mk b (0 : Nat) none)) (512 : Nat) (512 : Nat)) (Value.slice ba bn bc)
  (Value.int IntKind.i64 n_1) w1_1 ∧
  onP p fun (a : Addr) ↦
  ∃ (a_3 : Option Addr),
  ∃ (l : Nat),
  ∃ (c : Nat),
  Ld Go.Proofs.Try.prog (95 : Nat) w1_1 a (Value.slice a_3 l c) ∧
  br (decide (n = (↑l : Int)))
  (onP p fun (a : Addr) ↦
  ∃ (a_4 : Option Addr),
  ∃ (l : Nat),
  ∃ (c : Nat),
  Ld Go.Proofs.Try.prog (95 : Nat) (World.drew w1_1) a (Value.slice a_4 l c) ∧
  ∃ (cs : List Value),
  Ld Go.Proofs.Try.prog (102 : Nat) (World.drew w1_1) (Addr.mk b (0 : Nat) none)
  (Value.agg (List.toArray cs)) ∧
  ∃ (e : TypeId),
  ∃ (l_1 : List Value),
  BuildS Go.Proofs.Try.prog (95 : Nat) (1 : Nat) [((0 : Nat), Value.agg (List.toArray cs))] e
  l_1 ∧
  ∀ (b_1 : Nat) (w1 : World),
  New (World.drew w1_1) (Obj.cells (List.toArray l_1) e) b_1 w1 →
  Ld Go.Proofs.Try.prog (95 : Nat) w1 a (Value.slice a_4 l c) ∧
  ∃ (a : Option Addr),
  ∃ (n_2 : Nat),
  ∃ (m : Nat),
  ∃ (w1_2 : World),
  App Go.Proofs.Try.prog #[(95 : Nat), (95 : Nat)] (95 : Nat) w1
  (Value.slice a_4 l c)
  (Value.slice (some (Addr.mk b_1 (0 : Nat) none)) (1 : Nat)
  (1 : Nat))
  (Value.slice a n_2 m) w1_2 ∧
  onP p fun (a_6 : Addr) ↦
  ∃ (w1 : World),
  St Go.Proofs.Try.prog (95 : Nat) w1_2 a_6 (Value.slice a n_2 m) w1 ∧
  onP p fun (a : Addr) ↦
  ∃ (a_7 : Option Addr),
  ∃ (l : Nat),
  ∃ (c : Nat),
  Ld Go.Proofs.Try.prog (95 : Nat) (World.drew w1) a
  (Value.slice a_7 l c) ∧
  onP p fun (a : Addr) ↦
  ∃ (m : Option Nat),
  Ld Go.Proofs.Try.prog (94 : Nat) (World.drew w1)
  (Addr.add a (2 : Nat)) (Value.map m) ∧
  ∃ (cs : List Value),
  Ld Go.Proofs.Try.prog (102 : Nat) (World.drew w1)
  (Addr.mk b (0 : Nat) none)
  (Value.agg (List.toArray cs)) ∧
  onP a_7 fun (a : Addr) ↦
  ((0 : Int) ≤ n ∧ n < (↑l : Int)) ∧
  ∃ (w1_3 : World),
  St Go.Proofs.Try.prog (102 : Nat)
  (World.drew w1)
  (Addr.add a
  (Int.toNat n * (512 : Nat)))
  (Value.agg (List.toArray cs))
  w1_3 ∧
  ∃ (v : Value),
  ∃ (i : Int),
  ∃ (w1 : World),
  MEn Go.Proofs.Try.prog (94 : Nat)
  w1_3 (Value.map m)
  (Value.int IntKind.i64 n)
  (Value.tuple
  #[v,
  Value.int IntKind.i64
  i])
  w1 ∧
  ∃ (w1_4 : World),
  ESt Go.Proofs.Try.prog
  (94 : Nat) w1
  (Value.map m)
  (Value.int IntKind.i64
  i)
  (Value.bool true)
  w1_4 ∧
  CallV Go.Proofs.Try.prog
  (47 : Nat)
  [Value.pointer d] w1_4
  fun (e : Ending)
  (w' : World) ↦
  ∃ (i : Int),
  e =
  Ending.returned
  (Value.int
  IntKind.i64
  i) ∧
  R
  (Ending.returned
  (Value.int
  IntKind.i64
  i))
  w')
  (onP p fun (a : Addr) ↦
  ∃ (a_4 : Option Addr),
  ∃ (l : Nat),
  ∃ (c : Nat),
  Ld Go.Proofs.Try.prog (95 : Nat) (World.drew w1_1) a (Value.slice a_4 l c) ∧
  onP p fun (a : Addr) ↦
  ∃ (m : Option Nat),
  Ld Go.Proofs.Try.prog (94 : Nat) (World.drew w1_1) (Addr.add a (2 : Nat)) (Value.map m) ∧
  ∃ (cs : List Value),
  Ld Go.Proofs.Try.prog (102 : Nat) (World.drew w1_1) (Addr.mk b (0 : Nat) none)
  (Value.agg (List.toArray cs)) ∧
  onP a_4 fun (a : Addr) ↦
  ((0 : Int) ≤ n ∧ n < (↑l : Int)) ∧
  ∃ (w1 : World),
  St Go.Proofs.Try.prog (102 : Nat) (World.drew w1_1)
  (Addr.add a (Int.toNat n * (512 : Nat))) (Value.agg (List.toArray cs)) w1 ∧
  ∃ (v : Value),
  ∃ (i : Int),
  ∃ (w1_2 : World),
  MEn Go.Proofs.Try.prog (94 : Nat) w1 (Value.map m)
  (Value.int IntKind.i64 n)
  (Value.tuple #[v, Value.int IntKind.i64 i]) w1_2 ∧
  ∃ (w1 : World),
  ESt Go.Proofs.Try.prog (94 : Nat) w1_2 (Value.map m)
  (Value.int IntKind.i64 i) (Value.bool true) w1 ∧
  CallV Go.Proofs.Try.prog (47 : Nat) [Value.pointer d] w1
  fun (e : Ending) (w' : World) ↦
  ∃ (i : Int),
  e = Ending.returned (Value.int IntKind.i64 i) ∧
  R (Ending.returned (Value.int IntKind.i64 i)) w'))))
  (CallV Go.Proofs.Try.prog (46 : Nat) [Value.pointer d] (World.drew w') fun (e : Ending) (w' : World) ↦
  ∃ (b : Bool),
  e = Ending.returned (Value.bool b) ∧
  br b (R (Ending.returned (Value.int IntKind.i64 (95 : Int))) w')
  (∀ (b : Nat) (w1 : World),
  New w' (Obj.cells (List.toArray (zl Go.Proofs.Try.prog (102 : Nat))) (102 : Nat)) b w1 →
  ∃ (n_1 : Int),
  ∃ (w1_1 : World),
  Cpy Go.Proofs.Try.prog #[(46 : Nat), (46 : Nat)] (3 : Nat) w1 (Value.slice (some (Addr.mk b (0 : Nat) none)) (512 : Nat) (512 : Nat))
  (Value.slice ba bn bc) (Value.int IntKind.i64 n_1) w1_1 ∧
  onP p fun (a : Addr) ↦
  ∃ (a_3 : Option Addr),
  ∃ (l : Nat),
  ∃ (c : Nat),
  Ld Go.Proofs.Try.prog (95 : Nat) w1_1 a (Value.slice a_3 l c) ∧
  br (decide (n = (↑l : Int)))
  (onP p fun (a : Addr) ↦
  ∃ (a_4 : Option Addr),
  ∃ (l : Nat),
  ∃ (c : Nat),
  Ld Go.Proofs.Try.prog (95 : Nat) (World.drew w1_1) a (Value.slice a_4 l c) ∧
  ∃ (cs : List Value),
  Ld Go.Proofs.Try.prog (102 : Nat) (World.drew w1_1) (Addr.mk b (0 : Nat) none) (Value.agg (List.toArray cs)) ∧
  ∃ (e : TypeId),
  ∃ (l_1 : List Value),
  BuildS Go.Proofs.Try.prog (95 : Nat) (1 : Nat) [((0 : Nat), Value.agg (List.toArray cs))] e l_1 ∧
  ∀ (b_1 : Nat) (w1 : World),
  New (World.drew w1_1) (Obj.cells (List.toArray l_1) e) b_1 w1 →
  Ld Go.Proofs.Try.prog (95 : Nat) w1 a (Value.slice a_4 l c) ∧
  ∃ (a : Option Addr),
  ∃ (n_2 : Nat),
  ∃ (m : Nat),
  ∃ (w1_2 : World),
  App Go.Proofs.Try.prog #[(95 : Nat), (95 : Nat)] (95 : Nat) w1 (Value.slice a_4 l c)
  (Value.slice (some (Addr.mk b_1 (0 : Nat) none)) (1 : Nat) (1 : Nat))
  (Value.slice a n_2 m) w1_2 ∧
  onP p fun (a_6 : Addr) ↦
  ∃ (w1 : World),
  St Go.Proofs.Try.prog (95 : Nat) w1_2 a_6 (Value.slice a n_2 m) w1 ∧
  onP p fun (a : Addr) ↦
  ∃ (a_7 : Option Addr),
  ∃ (l : Nat),
  ∃ (c : Nat),
  Ld Go.Proofs.Try.prog (95 : Nat) (World.drew w1) a (Value.slice a_7 l c) ∧
  onP p fun (a : Addr) ↦
  ∃ (m : Option Nat),
  Ld Go.Proofs.Try.prog (94 : Nat) (World.drew w1)
  (Addr.add a (2 : Nat)) (Value.map m) ∧
  ∃ (cs : List Value),
  Ld Go.Proofs.Try.prog (102 : Nat) (World.drew w1)
  (Addr.mk b (0 : Nat) none) (Value.agg (List.toArray cs)) ∧
  onP a_7 fun (a : Addr) ↦
  ((0 : Int) ≤ n ∧ n < (↑l : Int)) ∧
  ∃ (w1_3 : World),
  St Go.Proofs.Try.prog (102 : Nat) (World.drew w1)
  (Addr.add a (Int.toNat n * (512 : Nat)))
  (Value.agg (List.toArray cs)) w1_3 ∧
  ∃ (v : Value),
  ∃ (i : Int),
  ∃ (w1 : World),
  MEn Go.Proofs.Try.prog (94 : Nat) w1_3
  (Value.map m) (Value.int IntKind.i64 n)
  (Value.tuple
  #[v, Value.int IntKind.i64 i])
  w1 ∧
  ∃ (w1_4 : World),
  ESt Go.Proofs.Try.prog (94 : Nat) w1
  (Value.map m)
  (Value.int IntKind.i64 i)
  (Value.bool true) w1_4 ∧
  CallV Go.Proofs.Try.prog (47 : Nat)
  [Value.pointer d] w1_4
  fun (e : Ending) (w' : World) ↦
  ∃ (i : Int),
  e =
  Ending.returned
  (Value.int IntKind.i64 i) ∧
  R
  (Ending.returned
  (Value.int IntKind.i64 i))
  w')
  (onP p fun (a : Addr) ↦
  ∃ (a_4 : Option Addr),
  ∃ (l : Nat),
  ∃ (c : Nat),
  Ld Go.Proofs.Try.prog (95 : Nat) (World.drew w1_1) a (Value.slice a_4 l c) ∧
  onP p fun (a : Addr) ↦
  ∃ (m : Option Nat),
  Ld Go.Proofs.Try.prog (94 : Nat) (World.drew w1_1) (Addr.add a (2 : Nat)) (Value.map m) ∧
  ∃ (cs : List Value),
  Ld Go.Proofs.Try.prog (102 : Nat) (World.drew w1_1) (Addr.mk b (0 : Nat) none)
  (Value.agg (List.toArray cs)) ∧
  onP a_4 fun (a : Addr) ↦
  ((0 : Int) ≤ n ∧ n < (↑l : Int)) ∧
  ∃ (w1 : World),
  St Go.Proofs.Try.prog (102 : Nat) (World.drew w1_1) (Addr.add a (Int.toNat n * (512 : Nat)))
  (Value.agg (List.toArray cs)) w1 ∧
  ∃ (v : Value),
  ∃ (i : Int),
  ∃ (w1_2 : World),
  MEn Go.Proofs.Try.prog (94 : Nat) w1 (Value.map m) (Value.int IntKind.i64 n)
  (Value.tuple #[v, Value.int IntKind.i64 i]) w1_2 ∧
  ∃ (w1 : World),
  ESt Go.Proofs.Try.prog (94 : Nat) w1_2 (Value.map m) (Value.int IntKind.i64 i)
  (Value.bool true) w1 ∧
  CallV Go.Proofs.Try.prog (47 : Nat) [Value.pointer d] w1
  fun (e : Ending) (w' : World) ↦
  ∃ (i : Int),
  e = Ending.returned (Value.int IntKind.i64 i) ∧
  R (Ending.returned (Value.int IntKind.i64 i)) w'))))))))
theorem write.eq (d : Option Addr) (name : ByteArray) (n : Int) (ba : Option Addr) (bn : Nat) (bc : Nat) (w : World) (R : Ending → World → Prop) : bodyV Go.Proofs.Try.prog write.an Go.Proofs.Try.f19 [.pointer d, .string name, .int .i64 n, .slice ba bn bc] w R = write.vc d name n ba bn bc w R := by kernel_rfl
theorem write.ok (d : Option Addr) (name : ByteArray) (n : Int) (ba : Option Addr) (bn : Nat) (bc : Nat) (w : World) (R : Ending → World → Prop) (h : write.vc d name n ba bn bc w R) : Calls Go.Proofs.Try.prog 19 #[.pointer d, .string name, .int .i64 n, .slice ba bn bc] w R :=
  calls_of_bodyV noNum (an := write.an) (args := [.pointer d, .string name, .int .i64 n, .slice ba bn bc]) Go.Proofs.Try.func19 (by kernel_rfl) ((write.eq d name n ba bn bc w R).mpr h)

/-- (*incunable/vault.Disk).Sync -/
def sync.an : An := { wraps := [], loops := [], joins := [], ranges := [] }
def sync.vc (d : Option Addr) (name : ByteArray) (w : World) (R : Ending → World → Prop) : Prop :=
  CallV Go.Proofs.Try.prog (45 : Nat) [Value.pointer d, Value.string name] w fun (e : Ending) (w' : World) ↦
  ∃ (p : Option Addr),
  e = Ending.returned (Value.pointer p) ∧
  onP d fun (a : Addr) ↦
  ∃ (b : Bool),
  Ld Go.Proofs.Try.prog (4 : Nat) w' (Addr.add a (7 : Nat)) (Value.bool b) ∧
  br b (R (Ending.returned (Value.int IntKind.i64 (93 : Int))) w')
  (∃ (b : Bool),
  Eqv Go.Proofs.Try.prog BinOp.eql (93 : Nat) (Operand.tmp (15 : Nat)) (Operand.const (Value.pointer none)) w' (Value.pointer p) (Value.pointer none) b ∧
  br b (R (Ending.returned (Value.int IntKind.i64 (90 : Int))) w')
  (CallV Go.Proofs.Try.prog (46 : Nat) [Value.pointer d] w' fun (e : Ending) (w' : World) ↦
  ∃ (b : Bool),
  e = Ending.returned (Value.bool b) ∧
  br b (R (Ending.returned (Value.int IntKind.i64 (95 : Int))) w')
  (CallV Go.Proofs.Try.prog (61 : Nat) [Value.pointer d] w' fun (e : Ending) (w' : World) ↦
  ∃ (b : Bool),
  e = Ending.returned (Value.bool b) ∧
  br b (R (Ending.returned (Value.int IntKind.i64 (93 : Int))) w')
  (onP p fun (a : Addr) ↦
  ∃ (a_1 : Option Addr),
  ∃ (l : Nat),
  ∃ (c : Nat),
  Ld Go.Proofs.Try.prog (95 : Nat) w' a (Value.slice a_1 l c) ∧
  CallV Go.Proofs.Try.prog (62 : Nat) [Value.slice a_1 l c] w' fun (e : Ending) (w' : World) ↦
  ∃ (a : Option Addr),
  ∃ (l : Nat),
  ∃ (c : Nat),
  e = Ending.returned (Value.slice a l c) ∧
  onP p fun (a_2 : Addr) ↦
  ∃ (w1 : World),
  St Go.Proofs.Try.prog (95 : Nat) w' (Addr.add a_2 (1 : Nat)) (Value.slice a l c) w1 ∧
  onP p fun (a : Addr) ↦
  ∃ (m : Option Nat),
  Ld Go.Proofs.Try.prog (94 : Nat) w1 (Addr.add a (2 : Nat)) (Value.map m) ∧
  ∃ (w1_1 : World),
  Clr Go.Proofs.Try.prog #[(94 : Nat)] (0 : Nat) w1 (Value.map m) w1_1 ∧ R (Ending.returned (Value.int IntKind.i64 (0 : Int))) w1_1))))
theorem sync.eq (d : Option Addr) (name : ByteArray) (w : World) (R : Ending → World → Prop) : bodyV Go.Proofs.Try.prog sync.an Go.Proofs.Try.f32 [.pointer d, .string name] w R = sync.vc d name w R := by kernel_rfl
theorem sync.ok (d : Option Addr) (name : ByteArray) (w : World) (R : Ending → World → Prop) (h : sync.vc d name w R) : Calls Go.Proofs.Try.prog 32 #[.pointer d, .string name] w R :=
  calls_of_bodyV noNum (an := sync.an) (args := [.pointer d, .string name]) Go.Proofs.Try.func32 (by kernel_rfl) ((sync.eq d name w R).mpr h)

/-- (*incunable/vault.Disk).SyncNames -/
def syncNames.an : An := { wraps := [], loops := [], joins := [], ranges := [] }
def syncNames.vc (d : Option Addr) (w : World) (R : Ending → World → Prop) : Prop :=
  onP d fun (a : Addr) ↦
  ∃ (b : Bool),
  Ld Go.Proofs.Try.prog (4 : Nat) w (Addr.add a (7 : Nat)) (Value.bool b) ∧
  br b (R (Ending.returned (Value.int IntKind.i64 (93 : Int))) w)
  (CallV Go.Proofs.Try.prog (61 : Nat) [Value.pointer d] w fun (e : Ending) (w' : World) ↦
  ∃ (b : Bool),
  e = Ending.returned (Value.bool b) ∧
  br b (R (Ending.returned (Value.int IntKind.i64 (93 : Int))) w')
  (onP d fun (a : Addr) ↦
  ∃ (m : Option Nat),
  Ld Go.Proofs.Try.prog (71 : Nat) w' (Addr.add a (2 : Nat)) (Value.map m) ∧
  CallV Go.Proofs.Try.prog (59 : Nat) [Value.map m] w' fun (e : Ending) (w' : World) ↦
  ∃ (m : Option Nat),
  e = Ending.returned (Value.map m) ∧
  onP d fun (a : Addr) ↦
  ∃ (w1 : World),
  St Go.Proofs.Try.prog (71 : Nat) w' (Addr.add a (3 : Nat)) (Value.map m) w1 ∧
  onP d fun (a : Addr) ↦
  ∃ (w1_1 : World),
  St Go.Proofs.Try.prog (73 : Nat) w1 (Addr.add a (4 : Nat)) (Value.slice none (0 : Nat) (0 : Nat)) w1_1 ∧ R (Ending.returned (Value.int IntKind.i64 (0 : Int))) w1_1))
theorem syncNames.eq (d : Option Addr) (w : World) (R : Ending → World → Prop) : bodyV Go.Proofs.Try.prog syncNames.an Go.Proofs.Try.f34 [.pointer d] w R = syncNames.vc d w R := by kernel_rfl
theorem syncNames.ok (d : Option Addr) (w : World) (R : Ending → World → Prop) (h : syncNames.vc d w R) : Calls Go.Proofs.Try.prog 34 #[.pointer d] w R :=
  calls_of_bodyV noNum (an := syncNames.an) (args := [.pointer d]) Go.Proofs.Try.func34 (by kernel_rfl) ((syncNames.eq d w R).mpr h)

/-- (*incunable/vault.Disk).Crash -/
def crash.an : An := { wraps := [], loops := [(4, [(24, .inl .i64)]), (10, [(63, .inl .i64)])], joins := [], ranges := [] }
def crash.vc (d : Option Addr) (names : Int) (picksa : Option Addr) (picksn : Nat) (picksc : Nat) (w : World) (R : Ending → World → Prop) : Prop :=
  ∀ (b : Nat) (w1 : World),
  New w (Obj.cells #[Value.slice picksa picksn picksc] (47 : Nat)) b w1 →
  onP d fun (a : Addr) ↦
  ∃ (i : Int),
  Ld Go.Proofs.Try.prog (3 : Nat) w1 a (Value.int IntKind.i64 i) ∧
  CallV Go.Proofs.Try.prog (8 : Nat) [Value.int IntKind.i64 i] w1 fun (e : Ending) (w' : World) ↦
  ∃ (p : Option Addr),
  e = Ending.returned (Value.pointer p) ∧
  onP d fun (a : Addr) ↦
  ∃ (a_1 : Option Addr),
  ∃ (l : Nat),
  ∃ (c : Nat),
  Ld Go.Proofs.Try.prog (72 : Nat) w' (Addr.add a (1 : Nat)) (Value.slice a_1 l c) ∧
  LoopP
  (fun (s : Int) (w' : World) (next : Int → World → Prop) ↦
  br (decide (s < (↑l : Int)))
  (onP a_1 fun (a : Addr) ↦
  ((0 : Int) ≤ s ∧ s < (↑l : Int)) ∧
  ∃ (p_1 : Option Addr),
  Ld Go.Proofs.Try.prog (93 : Nat) w' (Addr.add a (Int.toNat s * (1 : Nat))) (Value.pointer p_1) ∧
  onP p fun (a : Addr) ↦
  ∃ (a_2 : Option Addr),
  ∃ (l : Nat),
  ∃ (c : Nat),
  Ld Go.Proofs.Try.prog (72 : Nat) (World.drew w') (Addr.add a (1 : Nat)) (Value.slice a_2 l c) ∧
  CallV Go.Proofs.Try.prog (58 : Nat) [Value.pointer p_1, Value.func (Fn.func (57 : Nat)) #[] #[Value.pointer (some (Addr.mk b (0 : Nat) none))]]
  (World.drew w') fun (e : Ending) (w' : World) ↦
  ∃ (p_2 : Option Addr),
  e = Ending.returned (Value.pointer p_2) ∧
  Ld Go.Proofs.Try.prog (72 : Nat) w' (Addr.add a (1 : Nat)) (Value.slice a_2 l c) ∧
  ∀ (b : Nat) (w1 : World),
  New w' (Obj.cells #[Value.pointer p_2] (93 : Nat)) b w1 →
  Ld Go.Proofs.Try.prog (72 : Nat) w1 (Addr.add a (1 : Nat)) (Value.slice a_2 l c) ∧
  ∃ (a : Option Addr),
  ∃ (n : Nat),
  ∃ (m : Nat),
  ∃ (w1_1 : World),
  App Go.Proofs.Try.prog #[(72 : Nat), (72 : Nat)] (72 : Nat) w1 (Value.slice a_2 l c)
  (Value.slice (some (Addr.mk b (0 : Nat) none)) (1 : Nat) (1 : Nat)) (Value.slice a n m) w1_1 ∧
  onP p fun (a_4 : Addr) ↦
  ∃ (w1 : World),
  St Go.Proofs.Try.prog (72 : Nat) w1_1 (Addr.add a_4 (1 : Nat)) (Value.slice a n m) w1 ∧
  inR IntKind.i64 (s + (1 : Int)) ∧ next (s + (1 : Int)) w1)
  (onP d fun (a : Addr) ↦
  ∃ (m : Option Nat),
  Ld Go.Proofs.Try.prog (71 : Nat) w' (Addr.add a (3 : Nat)) (Value.map m) ∧
  CallV Go.Proofs.Try.prog (59 : Nat) [Value.map m] w' fun (e : Ending) (w' : World) ↦
  ∃ (m : Option Nat),
  e = Ending.returned (Value.map m) ∧
  onP p fun (a : Addr) ↦
  ∃ (w1 : World),
  St Go.Proofs.Try.prog (71 : Nat) w' (Addr.add a (2 : Nat)) (Value.map m) w1 ∧
  onP d fun (a : Addr) ↦
  ∃ (a_2 : Option Addr),
  ∃ (l : Nat),
  ∃ (c : Nat),
  Ld Go.Proofs.Try.prog (73 : Nat) (World.drew w1) (Addr.add a (4 : Nat)) (Value.slice a_2 l c) ∧
  onP d fun (a : Addr) ↦
  ∃ (a_3 : Option Addr),
  ∃ (l : Nat),
  ∃ (c_1 : Nat),
  Ld Go.Proofs.Try.prog (73 : Nat) (World.drew w1) (Addr.add a (4 : Nat)) (Value.slice a_3 l c_1) ∧
  ((0 : Int) ≤ min (max names (0 : Int)) (↑l : Int) ∧ min (max names (0 : Int)) (↑l : Int) ≤ (↑c : Int)) ∧
  LoopP
  (fun (s : Int) (w' : World) (next : Int → World → Prop) ↦
  br (decide (s < (↑(Int.toNat (min (max names (0 : Int)) (↑l : Int))) : Int)))
  (onP a_2 fun (a : Addr) ↦
  ((0 : Int) ≤ s ∧ s < (↑(Int.toNat (min (max names (0 : Int)) (↑l : Int))) : Int)) ∧
  ∃ (v : Value),
  Ld Go.Proofs.Try.prog (119 : Nat) w' (Addr.add a (Int.toNat s * (1 : Nat))) v ∧
  onP p fun (a : Addr) ↦
  ∃ (m : Option Nat),
  Ld Go.Proofs.Try.prog (71 : Nat) w' (Addr.add a (2 : Nat)) (Value.map m) ∧
  CallX Go.Proofs.Try.prog v [Value.map m] w' fun (e : Ending) (w' : World) ↦
  e = Ending.returned (Value.tuple #[]) ∧ inR IntKind.i64 (s + (1 : Int)) ∧ next (s + (1 : Int)) w')
  (onP p fun (a : Addr) ↦
  ∃ (m : Option Nat),
  Ld Go.Proofs.Try.prog (71 : Nat) w' (Addr.add a (2 : Nat)) (Value.map m) ∧
  CallV Go.Proofs.Try.prog (59 : Nat) [Value.map m] w' fun (e : Ending) (w' : World) ↦
  ∃ (m : Option Nat),
  e = Ending.returned (Value.map m) ∧
  onP p fun (a : Addr) ↦
  ∃ (w1 : World),
  St Go.Proofs.Try.prog (71 : Nat) w' (Addr.add a (3 : Nat)) (Value.map m) w1 ∧
  R (Ending.returned (Value.pointer p)) w1))
  (0 : Int) (World.drew w1)))
  (0 : Int) w'
theorem crash.eq (d : Option Addr) (names : Int) (picksa : Option Addr) (picksn : Nat) (picksc : Nat) (w : World) (R : Ending → World → Prop) : bodyV Go.Proofs.Try.prog crash.an Go.Proofs.Try.f29 [.pointer d, .int .i64 names, .slice picksa picksn picksc] w R = crash.vc d names picksa picksn picksc w R := by kernel_rfl
theorem crash.ok (d : Option Addr) (names : Int) (picksa : Option Addr) (picksn : Nat) (picksc : Nat) (w : World) (R : Ending → World → Prop) (h : crash.vc d names picksa picksn picksc w R) : Calls Go.Proofs.Try.prog 29 #[.pointer d, .int .i64 names, .slice picksa picksn picksc] w R :=
  calls_of_bodyV noNum (an := crash.an) (args := [.pointer d, .int .i64 names, .slice picksa picksn picksc]) Go.Proofs.Try.func29 (by kernel_rfl) ((crash.eq d names picksa picksn picksc w R).mpr h)

/-- (*incunable/vault.Disk).Read -/
def read.an : An := { wraps := [], loops := [], joins := [], ranges := [] }
def read.vc (d : Option Addr) (name : ByteArray) (n : Int) (w : World) (R : Ending → World → Prop) : Prop :=
  CallV Go.Proofs.Try.prog (45 : Nat) [Value.pointer d, Value.string name] w fun (e : Ending) (w' : World) ↦
  ∃ (p : Option Addr),
  e = Ending.returned (Value.pointer p) ∧
  onP d fun (a : Addr) ↦
  ∃ (b : Bool),
  Ld Go.Proofs.Try.prog (4 : Nat) w' (Addr.add a (7 : Nat)) (Value.bool b) ∧
  br b (R (Ending.returned (Value.tuple #[Value.slice none (0 : Nat) (0 : Nat), Value.int IntKind.i64 (93 : Int)])) w')
  (∃ (b : Bool),
  Eqv Go.Proofs.Try.prog BinOp.eql (93 : Nat) (Operand.tmp (19 : Nat)) (Operand.const (Value.pointer none)) w' (Value.pointer p) (Value.pointer none) b ∧
  br b (R (Ending.returned (Value.tuple #[Value.slice none (0 : Nat) (0 : Nat), Value.int IntKind.i64 (90 : Int)])) w')
  (br (decide (n < (0 : Int))) (R (Ending.returned (Value.tuple #[Value.slice none (0 : Nat) (0 : Nat), Value.int IntKind.i64 (91 : Int)])) w')
  (onP p fun (a : Addr) ↦
  ∃ (a_1 : Option Addr),
  ∃ (l : Nat),
  ∃ (c : Nat),
  Ld Go.Proofs.Try.prog (95 : Nat) w' a (Value.slice a_1 l c) ∧
  br (decide ((↑l : Int) ≤ n)) (R (Ending.returned (Value.tuple #[Value.slice none (0 : Nat) (0 : Nat), Value.int IntKind.i64 (91 : Int)])) w')
  (onP p fun (a : Addr) ↦
  ∃ (a_2 : Option Addr),
  ∃ (l : Nat),
  ∃ (c : Nat),
  Ld Go.Proofs.Try.prog (95 : Nat) w' a (Value.slice a_2 l c) ∧
  onP a_2 fun (a : Addr) ↦
  ((0 : Int) ≤ n ∧ n < (↑l : Int)) ∧
  ∃ (cs : List Value),
  Ld Go.Proofs.Try.prog (102 : Nat) w' (Addr.add a (Int.toNat n * (512 : Nat))) (Value.agg (List.toArray cs)) ∧
  ∀ (b : Nat) (w1 : World),
  New w' (Obj.cells (List.toArray (zl Go.Proofs.Try.prog (102 : Nat))) (102 : Nat)) b w1 →
  ∃ (w1_1 : World),
  St Go.Proofs.Try.prog (102 : Nat) w1 (Addr.mk b (0 : Nat) none) (Value.agg (List.toArray cs)) w1_1 ∧
  R (Ending.returned (Value.tuple #[Value.slice (some (Addr.mk b (0 : Nat) none)) (512 : Nat) (512 : Nat), Value.int IntKind.i64 (0 : Int)]))
  w1_1))))
theorem read.eq (d : Option Addr) (name : ByteArray) (n : Int) (w : World) (R : Ending → World → Prop) : bodyV Go.Proofs.Try.prog read.an Go.Proofs.Try.f36 [.pointer d, .string name, .int .i64 n] w R = read.vc d name n w R := by kernel_rfl
theorem read.ok (d : Option Addr) (name : ByteArray) (n : Int) (w : World) (R : Ending → World → Prop) (h : read.vc d name n w R) : Calls Go.Proofs.Try.prog 36 #[.pointer d, .string name, .int .i64 n] w R :=
  calls_of_bodyV noNum (an := read.an) (args := [.pointer d, .string name, .int .i64 n]) Go.Proofs.Try.func36 (by kernel_rfl) ((read.eq d name n w R).mpr h)

/-- (*incunable/vault.Disk).Size -/
def size.an : An := { wraps := [], loops := [], joins := [], ranges := [] }
def size.vc (d : Option Addr) (name : ByteArray) (w : World) (R : Ending → World → Prop) : Prop :=
  CallV Go.Proofs.Try.prog (45 : Nat) [Value.pointer d, Value.string name] w fun (e : Ending) (w' : World) ↦
  ∃ (p : Option Addr),
  e = Ending.returned (Value.pointer p) ∧
  ∃ (b : Bool),
  Eqv Go.Proofs.Try.prog BinOp.eql (93 : Nat) (Operand.tmp (9 : Nat)) (Operand.const (Value.pointer none)) w' (Value.pointer p) (Value.pointer none) b ∧
  br b (R (Ending.returned (Value.int IntKind.i64 (-1 : Int))) w')
  (onP p fun (a : Addr) ↦
  ∃ (a_1 : Option Addr), ∃ (l : Nat), ∃ (c : Nat), Ld Go.Proofs.Try.prog (95 : Nat) w' a (Value.slice a_1 l c) ∧ R (Ending.returned (Value.int IntKind.i64 (↑l : Int))) w')
theorem size.eq (d : Option Addr) (name : ByteArray) (w : World) (R : Ending → World → Prop) : bodyV Go.Proofs.Try.prog size.an Go.Proofs.Try.f38 [.pointer d, .string name] w R = size.vc d name w R := by kernel_rfl
theorem size.ok (d : Option Addr) (name : ByteArray) (w : World) (R : Ending → World → Prop) (h : size.vc d name w R) : Calls Go.Proofs.Try.prog 38 #[.pointer d, .string name] w R :=
  calls_of_bodyV noNum (an := size.an) (args := [.pointer d, .string name]) Go.Proofs.Try.func38 (by kernel_rfl) ((size.eq d name w R).mpr h)

/-- (*incunable/vault.Disk).Rename -/
def rename.an : An := { wraps := [], loops := [], joins := [], ranges := [] }
def rename.vc (d : Option Addr) (from_ : ByteArray) (to_ : ByteArray) (w : World) (R : Ending → World → Prop) : Prop :=
  ∀ (b : Nat) (w1 : World),
  New w (Obj.cells #[Value.string from_] (9 : Nat)) b w1 →
  ∀ (b_1 : Nat) (w1_1 : World),
  New w1 (Obj.cells #[Value.string to_] (9 : Nat)) b_1 w1_1 →
  onP d fun (a : Addr) ↦
  ∃ (m : Option Nat),
  Ld Go.Proofs.Try.prog (71 : Nat) (World.drew w1_1) (Addr.add a (2 : Nat)) (Value.map m) ∧
  ∃ (s : ByteArray),
  Ld Go.Proofs.Try.prog (9 : Nat) (World.drew w1_1) (Addr.mk b (0 : Nat) none) (Value.string s) ∧
  ∃ (i : Int),
  ∃ (b_2 : Bool),
  Lk Go.Proofs.Try.prog (71 : Nat) true (World.drew w1_1) (Value.map m) (Value.string s) (Value.tuple #[Value.int IntKind.i64 i, Value.bool b_2]) ∧
  ∀ (b_3 : Nat) (w1 : World),
  New (World.drew w1_1) (Obj.cells #[Value.int IntKind.i64 (0 : Int)] (3 : Nat)) b_3 w1 →
  Lk Go.Proofs.Try.prog (71 : Nat) true w1 (Value.map m) (Value.string s) (Value.tuple #[Value.int IntKind.i64 i, Value.bool b_2]) ∧
  Ld Go.Proofs.Try.prog (9 : Nat) w1 (Addr.mk b (0 : Nat) none) (Value.string s) ∧
  Ld Go.Proofs.Try.prog (71 : Nat) w1 (Addr.add a (2 : Nat)) (Value.map m) ∧
  ∃ (w1_2 : World),
  St Go.Proofs.Try.prog (3 : Nat) w1 (Addr.mk b_3 (0 : Nat) none) (Value.int IntKind.i64 i) w1_2 ∧
  onP d fun (a : Addr) ↦
  ∃ (b_4 : Bool),
  Ld Go.Proofs.Try.prog (4 : Nat) w1_2 (Addr.add a (7 : Nat)) (Value.bool b_4) ∧
  br b_4 (R (Ending.returned (Value.int IntKind.i64 (93 : Int))) w1_2)
  (br (!b_2) (R (Ending.returned (Value.int IntKind.i64 (90 : Int))) w1_2)
  (∃ (s : ByteArray),
  Ld Go.Proofs.Try.prog (9 : Nat) w1_2 (Addr.mk b_1 (0 : Nat) none) (Value.string s) ∧
  CallV Go.Proofs.Try.prog (42 : Nat) [Value.string s] w1_2 fun (e : Ending) (w' : World) ↦
  ∃ (b_5 : Bool),
  e = Ending.returned (Value.bool b_5) ∧
  br (!b_5) (R (Ending.returned (Value.int IntKind.i64 (92 : Int))) w')
  (∃ (s : ByteArray),
  Ld Go.Proofs.Try.prog (9 : Nat) w' (Addr.mk b (0 : Nat) none) (Value.string s) ∧
  ∃ (s_1 : ByteArray),
  Ld Go.Proofs.Try.prog (9 : Nat) w' (Addr.mk b_1 (0 : Nat) none) (Value.string s_1) ∧
  br (decide (s = s_1)) (R (Ending.returned (Value.int IntKind.i64 (0 : Int))) w')
  (CallV Go.Proofs.Try.prog (43 : Nat)
  [Value.pointer d,
  Value.func (Fn.func (63 : Nat)) #[]
  #[Value.pointer (some (Addr.mk b (0 : Nat) none)), Value.pointer (some (Addr.mk b_3 (0 : Nat) none)),
  Value.pointer (some (Addr.mk b_1 (0 : Nat) none))]]
  w' fun (e : Ending) (w' : World) ↦
  ∃ (i : Int), e = Ending.returned (Value.int IntKind.i64 i) ∧ R (Ending.returned (Value.int IntKind.i64 i)) w'))))
theorem rename.eq (d : Option Addr) (from_ : ByteArray) (to_ : ByteArray) (w : World) (R : Ending → World → Prop) : bodyV Go.Proofs.Try.prog rename.an Go.Proofs.Try.f33 [.pointer d, .string from_, .string to_] w R = rename.vc d from_ to_ w R := by kernel_rfl
theorem rename.ok (d : Option Addr) (from_ : ByteArray) (to_ : ByteArray) (w : World) (R : Ending → World → Prop) (h : rename.vc d from_ to_ w R) : Calls Go.Proofs.Try.prog 33 #[.pointer d, .string from_, .string to_] w R :=
  calls_of_bodyV noNum (an := rename.an) (args := [.pointer d, .string from_, .string to_]) Go.Proofs.Try.func33 (by kernel_rfl) ((rename.eq d from_ to_ w R).mpr h)

/-- (*incunable/vault.Disk).Remove -/
def remove.an : An := { wraps := [], loops := [], joins := [], ranges := [] }
def remove.vc (d : Option Addr) (name : ByteArray) (w : World) (R : Ending → World → Prop) : Prop :=
  ∀ (b : Nat) (w1 : World),
  New w (Obj.cells #[Value.string name] (9 : Nat)) b w1 →
  onP d fun (a : Addr) ↦
  ∃ (m : Option Nat),
  Ld Go.Proofs.Try.prog (71 : Nat) (World.drew w1) (Addr.add a (2 : Nat)) (Value.map m) ∧
  ∃ (s : ByteArray),
  Ld Go.Proofs.Try.prog (9 : Nat) (World.drew w1) (Addr.mk b (0 : Nat) none) (Value.string s) ∧
  ∃ (i : Int),
  ∃ (b_1 : Bool),
  Lk Go.Proofs.Try.prog (71 : Nat) true (World.drew w1) (Value.map m) (Value.string s) (Value.tuple #[Value.int IntKind.i64 i, Value.bool b_1]) ∧
  onP d fun (a : Addr) ↦
  ∃ (b_2 : Bool),
  Ld Go.Proofs.Try.prog (4 : Nat) (World.drew w1) (Addr.add a (7 : Nat)) (Value.bool b_2) ∧
  br b_2 (R (Ending.returned (Value.int IntKind.i64 (93 : Int))) (World.drew w1))
  (br (!b_1) (R (Ending.returned (Value.int IntKind.i64 (90 : Int))) (World.drew w1))
  (CallV Go.Proofs.Try.prog (43 : Nat) [Value.pointer d, Value.func (Fn.func (54 : Nat)) #[] #[Value.pointer (some (Addr.mk b (0 : Nat) none))]] (World.drew w1)
  fun (e : Ending) (w' : World) ↦ ∃ (i : Int), e = Ending.returned (Value.int IntKind.i64 i) ∧ R (Ending.returned (Value.int IntKind.i64 i)) w'))
theorem remove.eq (d : Option Addr) (name : ByteArray) (w : World) (R : Ending → World → Prop) : bodyV Go.Proofs.Try.prog remove.an Go.Proofs.Try.f25 [.pointer d, .string name] w R = remove.vc d name w R := by kernel_rfl
theorem remove.ok (d : Option Addr) (name : ByteArray) (w : World) (R : Ending → World → Prop) (h : remove.vc d name w R) : Calls Go.Proofs.Try.prog 25 #[.pointer d, .string name] w R :=
  calls_of_bodyV noNum (an := remove.an) (args := [.pointer d, .string name]) Go.Proofs.Try.func25 (by kernel_rfl) ((remove.eq d name w R).mpr h)

/-- incunable/incunableref09.Crash -/
def rcrash.an : An := { wraps := [], loops := [(4, [(8, .inl .i64), (9, .inl .i64)])], joins := [], ranges := [] }
def rcrash.vc (d_Room : Int) (d_Filesa : Option Addr) (d_Filesn : Nat) (d_Filesc : Nat) (d_Namesa : Option Addr) (d_Namesn : Nat) (d_Namesc : Nat) (d_Firma : Option Addr) (d_Firmn : Nat) (d_Firmc : Nat) (d_Sincea : Option Addr) (d_Sincen : Nat) (d_Sincec : Nat) (d_Armed : Int) (d_Denied : Int) (d_Dead : Bool) (names : Int) (picksa : Option Addr) (picksn : Nat) (picksc : Nat) (w : World) (R : Ending → World → Prop) : Prop :=
  ∀ (b : Nat) (w1 : World),
  New w
  (Obj.cells
  #[Value.int IntKind.i64 d_Room, Value.slice d_Filesa d_Filesn d_Filesc, Value.slice d_Namesa d_Namesn d_Namesc, Value.slice d_Firma d_Firmn d_Firmc, Value.slice d_Sincea d_Sincen d_Sincec,
  Value.int IntKind.i64 d_Armed, Value.int IntKind.i64 d_Denied, Value.bool d_Dead]
  (44 : Nat))
  b w1 →
  ∀ (b_1 : Nat) (w1_1 : World),
  New w1
  (Obj.cells
  #[Value.int IntKind.i64 (0 : Int), Value.slice none (0 : Nat) (0 : Nat), Value.slice none (0 : Nat) (0 : Nat), Value.slice none (0 : Nat) (0 : Nat), Value.slice none (0 : Nat) (0 : Nat),
  Value.int IntKind.i64 (0 : Int), Value.int IntKind.i64 (0 : Int), Value.bool false]
  (44 : Nat))
  b_1 w1_1 →
  ∃ (i : Int),
  Ld Go.Proofs.Try.prog (3 : Nat) w1_1 (Addr.mk b (0 : Nat) none) (Value.int IntKind.i64 i) ∧
  CallV Go.Proofs.Try.prog (17 : Nat) [Value.int IntKind.i64 i] w1_1 fun (e : Ending) (w' : World) ↦
  ∃ (i : Int),
  ∃ (a : Option Addr),
  ∃ (l : Nat),
  ∃ (c : Nat),
  ∃ (a_1 : Option Addr),
  ∃ (l_1 : Nat),
  ∃ (c_1 : Nat),
  ∃ (a_2 : Option Addr),
  ∃ (l_2 : Nat),
  ∃ (c_2 : Nat),
  ∃ (a_3 : Option Addr),
  ∃ (l_3 : Nat),
  ∃ (c_3 : Nat),
  ∃ (i_1 : Int),
  ∃ (i_2 : Int),
  ∃ (b_2 : Bool),
  e =
  Ending.returned
  (Value.agg
  #[Value.int IntKind.i64 i, Value.slice a l c, Value.slice a_1 l_1 c_1, Value.slice a_2 l_2 c_2, Value.slice a_3 l_3 c_3,
  Value.int IntKind.i64 i_1, Value.int IntKind.i64 i_2, Value.bool b_2]) ∧
  ∀ (b_3 : Nat) (w1 : World),
  New w'
  (Obj.cells
  #[Value.int IntKind.i64 (0 : Int), Value.slice none (0 : Nat) (0 : Nat), Value.slice none (0 : Nat) (0 : Nat),
  Value.slice none (0 : Nat) (0 : Nat), Value.slice none (0 : Nat) (0 : Nat), Value.int IntKind.i64 (0 : Int), Value.int IntKind.i64 (0 : Int),
  Value.bool false]
  (44 : Nat))
  b_3 w1 →
  ∃ (w1_2 : World),
  St Go.Proofs.Try.prog (44 : Nat) w1 (Addr.mk b_3 (0 : Nat) none)
  (Value.agg
  #[Value.int IntKind.i64 i, Value.slice a l c, Value.slice a_1 l_1 c_1, Value.slice a_2 l_2 c_2, Value.slice a_3 l_3 c_3,
  Value.int IntKind.i64 i_1, Value.int IntKind.i64 i_2, Value.bool b_2])
  w1_2 ∧
  LoopP
  (fun (s : Int × Int) (w' : World) (next : Int × Int → World → Prop) ↦
  ∃ (a : Option Addr),
  ∃ (l : Nat),
  ∃ (c : Nat),
  Ld Go.Proofs.Try.prog (40 : Nat) w' (Addr.mk b (1 : Nat) none) (Value.slice a l c) ∧
  br (decide (Prod.snd s < (↑l : Int)))
  ((∃ (a : Option Addr),
  ∃ (l : Nat),
  ∃ (c : Nat),
  Ld Go.Proofs.Try.prog (40 : Nat) (World.drew w') (Addr.mk b (1 : Nat) none) (Value.slice a l c) ∧
  onP a fun (a : Addr) ↦
  ((0 : Int) ≤ Prod.snd s ∧ Prod.snd s < (↑l : Int)) ∧
  ∃ (a_5 : Option Addr),
  ∃ (l : Nat),
  ∃ (c : Nat),
  ∃ (a_6 : Option Addr),
  ∃ (l_4 : Nat),
  ∃ (c_4 : Nat),
  ∃ (a_7 : Option Addr),
  ∃ (l_5 : Nat),
  ∃ (c_5 : Nat),
  Ld Go.Proofs.Try.prog (106 : Nat) (World.drew w') (Addr.add a (Int.toNat (Prod.snd s) * (3 : Nat)))
  (Value.agg #[Value.slice a_5 l c, Value.slice a_6 l_4 c_4, Value.slice a_7 l_5 c_5]) ∧
  ((0 : Int) ≤ min (Prod.fst s) (↑picksn : Int) ∧
  min (Prod.fst s) (↑picksn : Int) ≤ (↑picksn : Int)) ∧
  CallV Go.Proofs.Try.prog (66 : Nat)
  [Value.agg #[Value.slice a_5 l c, Value.slice a_6 l_4 c_4, Value.slice a_7 l_5 c_5],
  Value.slice (slA picksa picksc (Int.toNat (min (Prod.fst s) (↑picksn : Int))) (1 : Nat))
  (picksn - Int.toNat (min (Prod.fst s) (↑picksn : Int)))
  (picksc - Int.toNat (min (Prod.fst s) (↑picksn : Int)))]
  (World.drew w') fun (e : Ending) (w' : World) ↦
  ∃ (a : Option Addr),
  ∃ (l : Nat),
  ∃ (c : Nat),
  ∃ (a_8 : Option Addr),
  ∃ (l_6 : Nat),
  ∃ (c_6 : Nat),
  ∃ (a_9 : Option Addr),
  ∃ (l_7 : Nat),
  ∃ (c_7 : Nat),
  ∃ (i : Int),
  e =
  Ending.returned
  (Value.tuple
  #[Value.agg
  #[Value.slice a l c, Value.slice a_8 l_6 c_6,
  Value.slice a_9 l_7 c_7],
  Value.int IntKind.i64 i]) ∧
  ∀ (b : Nat) (w1 : World),
  New w'
  (Obj.cells
  #[Value.slice none (0 : Nat) (0 : Nat),
  Value.slice none (0 : Nat) (0 : Nat),
  Value.slice none (0 : Nat) (0 : Nat)]
  (106 : Nat))
  b w1 →
  ∃ (w1_3 : World),
  St Go.Proofs.Try.prog (106 : Nat) w1 (Addr.mk b (0 : Nat) none)
  (Value.agg
  #[Value.slice a l c, Value.slice a_8 l_6 c_6,
  Value.slice a_9 l_7 c_7])
  w1_3 ∧
  inR IntKind.i64 (Prod.fst s + i) ∧
  ∃ (a : Option Addr),
  ∃ (l : Nat),
  ∃ (c : Nat),
  Ld Go.Proofs.Try.prog (40 : Nat) w1_3
  (Addr.mk b_3 (1 : Nat) none) (Value.slice a l c) ∧
  ∃ (a_11 : Option Addr),
  ∃ (l_8 : Nat),
  ∃ (c_8 : Nat),
  ∃ (a_12 : Option Addr),
  ∃ (l_9 : Nat),
  ∃ (c_9 : Nat),
  ∃ (a_13 : Option Addr),
  ∃ (l_10 : Nat),
  ∃ (c_10 : Nat),
  Ld Go.Proofs.Try.prog (106 : Nat)
  w1_3
  (Addr.mk b (0 : Nat) none)
  (Value.agg
  #[Value.slice a_11 l_8 c_8,
  Value.slice a_12 l_9 c_9,
  Value.slice a_13 l_10
  c_10]) ∧
  ∀ (b : Nat) (w1 : World),
  New w1_3
  (Obj.cells
  #[Value.slice a_11 l_8
  c_8,
  Value.slice a_12 l_9
  c_9,
  Value.slice a_13 l_10
  c_10]
  (106 : Nat))
  b w1 →
  ∃ (a_15 : Option Addr),
  ∃ (n : Nat),
  ∃ (m : Nat),
  ∃ (w1_4 : World),
  App Go.Proofs.Try.prog
  #[(40 : Nat),
  (40 : Nat)]
  (40 : Nat) w1
  (Value.slice a l
  c)
  (Value.slice
  (some
  (Addr.mk b
  (0 : Nat)
  none))
  (1 : Nat)
  (1 : Nat))
  (Value.slice
  a_15 n m)
  w1_4 ∧
  ∃ (w1 : World),
  St
  Go.Proofs.Try.prog
  (40 : Nat)
  w1_4
  (Addr.mk b_3
  (1 : Nat)
  none)
  (Value.slice
  a_15 n m)
  w1 ∧
  inR
  IntKind.i64
  (Prod.snd
  s +
  (1 :
  Int)) ∧
  next
  (Prod.fst
  s +
  i,
  Prod.snd
  s +
  (1 :
  Int))
  w1) ∧
  ∃ (a : Option Addr),
  ∃ (l : Nat),
  ∃ (c : Nat),
  Ld Go.Proofs.Try.prog (40 : Nat) (World.drew w') (Addr.mk b (1 : Nat) none) (Value.slice a l c) ∧
  onP a fun (a_5 : Addr) ↦
  ((0 : Int) ≤ Prod.snd s ∧ Prod.snd s < (↑l : Int)) ∧
  ∃ (a_6 : Option Addr),
  ∃ (l_4 : Nat),
  ∃ (c_4 : Nat),
  ∃ (a_7 : Option Addr),
  ∃ (l_5 : Nat),
  ∃ (c_5 : Nat),
  ∃ (a_8 : Option Addr),
  ∃ (l_6 : Nat),
  ∃ (c_6 : Nat),
  Ld Go.Proofs.Try.prog (106 : Nat) (World.drew w') (Addr.add a_5 (Int.toNat (Prod.snd s) * (3 : Nat)))
  (Value.agg #[Value.slice a_6 l_4 c_4, Value.slice a_7 l_5 c_5, Value.slice a_8 l_6 c_6]) ∧
  ((0 : Int) ≤ min (Prod.fst s) (↑picksn : Int) ∧
  min (Prod.fst s) (↑picksn : Int) ≤ (↑picksn : Int)) ∧
  ∀ (b_4 : Nat) (w1 : World),
  New (World.drew w')
  (Obj.cells
  #[Value.slice none (0 : Nat) (0 : Nat), Value.slice none (0 : Nat) (0 : Nat),
  Value.slice none (0 : Nat) (0 : Nat)]
  (106 : Nat))
  b_4 w1 →
  Ld Go.Proofs.Try.prog (106 : Nat) w1 (Addr.add a_5 (Int.toNat (Prod.snd s) * (3 : Nat)))
  (Value.agg
  #[Value.slice a_6 l_4 c_4, Value.slice a_7 l_5 c_5, Value.slice a_8 l_6 c_6]) ∧
  Ld Go.Proofs.Try.prog (40 : Nat) w1 (Addr.mk b (1 : Nat) none) (Value.slice a l c) ∧
  CallV Go.Proofs.Try.prog (66 : Nat)
  [Value.agg
  #[Value.slice a_6 l_4 c_4, Value.slice a_7 l_5 c_5, Value.slice a_8 l_6 c_6],
  Value.slice
  (slA picksa picksc (Int.toNat (min (Prod.fst s) (↑picksn : Int))) (1 : Nat))
  (picksn - Int.toNat (min (Prod.fst s) (↑picksn : Int)))
  (picksc - Int.toNat (min (Prod.fst s) (↑picksn : Int)))]
  w1 fun (e : Ending) (w' : World) ↦
  ∃ (a : Option Addr),
  ∃ (l : Nat),
  ∃ (c : Nat),
  ∃ (a_10 : Option Addr),
  ∃ (l_7 : Nat),
  ∃ (c_7 : Nat),
  ∃ (a_11 : Option Addr),
  ∃ (l_8 : Nat),
  ∃ (c_8 : Nat),
  ∃ (i : Int),
  e =
  Ending.returned
  (Value.tuple
  #[Value.agg
  #[Value.slice a l c, Value.slice a_10 l_7 c_7,
  Value.slice a_11 l_8 c_8],
  Value.int IntKind.i64 i]) ∧
  ∃ (w1 : World),
  St Go.Proofs.Try.prog (106 : Nat) w'
  (Addr.mk b_4 (0 : Nat) none)
  (Value.agg
  #[Value.slice a l c, Value.slice a_10 l_7 c_7,
  Value.slice a_11 l_8 c_8])
  w1 ∧
  inR IntKind.i64 (Prod.fst s + i) ∧
  ∃ (a : Option Addr),
  ∃ (l : Nat),
  ∃ (c : Nat),
  Ld Go.Proofs.Try.prog (40 : Nat) w1
  (Addr.mk b_3 (1 : Nat) none)
  (Value.slice a l c) ∧
  ∃ (a_12 : Option Addr),
  ∃ (l_9 : Nat),
  ∃ (c_9 : Nat),
  ∃ (a_13 : Option Addr),
  ∃ (l_10 : Nat),
  ∃ (c_10 : Nat),
  ∃ (a_14 : Option Addr),
  ∃ (l_11 : Nat),
  ∃ (c_11 : Nat),
  Ld Go.Proofs.Try.prog (106 : Nat)
  w1
  (Addr.mk b_4 (0 : Nat)
  none)
  (Value.agg
  #[Value.slice a_12 l_9
  c_9,
  Value.slice a_13 l_10
  c_10,
  Value.slice a_14 l_11
  c_11]) ∧
  ∀ (b : Nat) (w1_3 : World),
  New w1
  (Obj.cells
  #[Value.slice a_12
  l_9 c_9,
  Value.slice a_13
  l_10 c_10,
  Value.slice a_14
  l_11 c_11]
  (106 : Nat))
  b w1_3 →
  ∃ (a_16 : Option Addr),
  ∃ (n : Nat),
  ∃ (m : Nat),
  ∃ (w1 : World),
  App
  Go.Proofs.Try.prog
  #[(40 :
  Nat),
  (40 :
  Nat)]
  (40 : Nat)
  w1_3
  (Value.slice
  a l c)
  (Value.slice
  (some
  (Addr.mk
  b
  (0 :
  Nat)
  none))
  (1 : Nat)
  (1 : Nat))
  (Value.slice
  a_16 n m)
  w1 ∧
  ∃ (w1_4 :
  World),
  St
  Go.Proofs.Try.prog
  (40 :
  Nat)
  w1
  (Addr.mk
  b_3
  (1 :
  Nat)
  none)
  (Value.slice
  a_16 n
  m)
  w1_4 ∧
  inR
  IntKind.i64
  (Prod.snd
  s +
  (1 :
  Int)) ∧
  next
  (Prod.fst
  s +
  i,
  Prod.snd
  s +
  (1 :
  Int))
  w1_4)
  (∃ (a : Option Addr),
  ∃ (l : Nat),
  ∃ (c : Nat),
  Ld Go.Proofs.Try.prog (41 : Nat) w' (Addr.mk b (3 : Nat) none) (Value.slice a l c) ∧
  ∃ (w1 : World),
  St Go.Proofs.Try.prog (41 : Nat) w' (Addr.mk b_3 (2 : Nat) none) (Value.slice a l c) w1 ∧
  ∃ (a : Option Addr),
  ∃ (l : Nat),
  ∃ (c : Nat),
  Ld Go.Proofs.Try.prog (42 : Nat) w1 (Addr.mk b (4 : Nat) none) (Value.slice a l c) ∧
  br (decide ((0 : Int) < min (max names (0 : Int)) (↑l : Int)))
  (∃ (a : Option Addr),
  ∃ (l_4 : Nat),
  ∃ (c : Nat),
  Ld Go.Proofs.Try.prog (42 : Nat) w1 (Addr.mk b (4 : Nat) none) (Value.slice a l_4 c) ∧
  inR IntKind.i64 (min (max names (0 : Int)) (↑l : Int) - (1 : Int)) ∧
  onP a fun (a : Addr) ↦
  ((0 : Int) ≤ min (max names (0 : Int)) (↑l : Int) - (1 : Int) ∧
  min (max names (0 : Int)) (↑l : Int) - (1 : Int) < (↑l_4 : Int)) ∧
  ∃ (a_5 : Option Addr),
  ∃ (l_5 : Nat),
  ∃ (c : Nat),
  Ld Go.Proofs.Try.prog (41 : Nat) w1
  (Addr.add a
  (Int.toNat (min (max names (0 : Int)) (↑l : Int) - (1 : Int)) * (1 : Nat)))
  (Value.slice a_5 l_5 c) ∧
  ∃ (w1_3 : World),
  St Go.Proofs.Try.prog (41 : Nat) w1 (Addr.mk b_3 (2 : Nat) none)
  (Value.slice a_5 l_5 c) w1_3 ∧
  ∃ (a : Option Addr),
  ∃ (l : Nat),
  ∃ (c : Nat),
  Ld Go.Proofs.Try.prog (41 : Nat) w1_3 (Addr.mk b_3 (2 : Nat) none)
  (Value.slice a l c) ∧
  ∃ (w1 : World),
  St Go.Proofs.Try.prog (41 : Nat) w1_3 (Addr.mk b_3 (3 : Nat) none)
  (Value.slice a l c) w1 ∧
  ∃ (i : Int),
  ∃ (a : Option Addr),
  ∃ (l : Nat),
  ∃ (c : Nat),
  ∃ (a_6 : Option Addr),
  ∃ (l_6 : Nat),
  ∃ (c_4 : Nat),
  ∃ (a_7 : Option Addr),
  ∃ (l_7 : Nat),
  ∃ (c_5 : Nat),
  ∃ (a_8 : Option Addr),
  ∃ (l_8 : Nat),
  ∃ (c_6 : Nat),
  ∃ (i_3 : Int),
  ∃ (i_4 : Int),
  ∃ (b : Bool),
  Ld Go.Proofs.Try.prog (44 : Nat) w1
  (Addr.mk b_3 (0 : Nat) none)
  (Value.agg
  #[Value.int IntKind.i64 i,
  Value.slice a l c,
  Value.slice a_6 l_6 c_4,
  Value.slice a_7 l_7 c_5,
  Value.slice a_8 l_8 c_6,
  Value.int IntKind.i64 i_3,
  Value.int IntKind.i64 i_4,
  Value.bool b]) ∧
  ∃ (w1_4 : World),
  St Go.Proofs.Try.prog (44 : Nat) w1
  (Addr.mk b_1 (0 : Nat) none)
  (Value.agg
  #[Value.int IntKind.i64 i,
  Value.slice a l c,
  Value.slice a_6 l_6 c_4,
  Value.slice a_7 l_7 c_5,
  Value.slice a_8 l_8 c_6,
  Value.int IntKind.i64 i_3,
  Value.int IntKind.i64 i_4,
  Value.bool b])
  w1_4 ∧
  ∃ (i : Int),
  ∃ (a : Option Addr),
  ∃ (l : Nat),
  ∃ (c : Nat),
  ∃ (a_9 : Option Addr),
  ∃ (l_9 : Nat),
  ∃ (c_7 : Nat),
  ∃ (a_10 :
  Option Addr),
  ∃ (l_10 : Nat),
  ∃ (c_8 : Nat),
  ∃ (a_11 :
  Option
  Addr),
  ∃ (l_11 :
  Nat),
  ∃ (c_9 :
  Nat),
  ∃ (i_5
  :
  Int),
  ∃
  (i_6
  :
  Int),
  ∃
  (b
  :
  Bool),
  Ld
  Go.Proofs.Try.prog
  (44 :
  Nat)
  w1_4
  (Addr.mk
  b_1
  (0 :
  Nat)
  none)
  (Value.agg
  #[Value.int
  IntKind.i64
  i,
  Value.slice
  a
  l
  c,
  Value.slice
  a_9
  l_9
  c_7,
  Value.slice
  a_10
  l_10
  c_8,
  Value.slice
  a_11
  l_11
  c_9,
  Value.int
  IntKind.i64
  i_5,
  Value.int
  IntKind.i64
  i_6,
  Value.bool
  b]) ∧
  R
  (Ending.returned
  (Value.agg
  #[Value.int
  IntKind.i64
  i,
  Value.slice
  a
  l
  c,
  Value.slice
  a_9
  l_9
  c_7,
  Value.slice
  a_10
  l_10
  c_8,
  Value.slice
  a_11
  l_11
  c_9,
  Value.int
  IntKind.i64
  i_5,
  Value.int
  IntKind.i64
  i_6,
  Value.bool
  b]))
  w1_4)
  (∃ (a : Option Addr),
  ∃ (l : Nat),
  ∃ (c : Nat),
  Ld Go.Proofs.Try.prog (41 : Nat) w1 (Addr.mk b_3 (2 : Nat) none) (Value.slice a l c) ∧
  ∃ (w1_3 : World),
  St Go.Proofs.Try.prog (41 : Nat) w1 (Addr.mk b_3 (3 : Nat) none) (Value.slice a l c) w1_3 ∧
  ∃ (i : Int),
  ∃ (a : Option Addr),
  ∃ (l : Nat),
  ∃ (c : Nat),
  ∃ (a_5 : Option Addr),
  ∃ (l_4 : Nat),
  ∃ (c_4 : Nat),
  ∃ (a_6 : Option Addr),
  ∃ (l_5 : Nat),
  ∃ (c_5 : Nat),
  ∃ (a_7 : Option Addr),
  ∃ (l_6 : Nat),
  ∃ (c_6 : Nat),
  ∃ (i_3 : Int),
  ∃ (i_4 : Int),
  ∃ (b : Bool),
  Ld Go.Proofs.Try.prog (44 : Nat) w1_3 (Addr.mk b_3 (0 : Nat) none)
  (Value.agg
  #[Value.int IntKind.i64 i, Value.slice a l c,
  Value.slice a_5 l_4 c_4, Value.slice a_6 l_5 c_5,
  Value.slice a_7 l_6 c_6, Value.int IntKind.i64 i_3,
  Value.int IntKind.i64 i_4, Value.bool b]) ∧
  ∃ (w1 : World),
  St Go.Proofs.Try.prog (44 : Nat) w1_3
  (Addr.mk b_1 (0 : Nat) none)
  (Value.agg
  #[Value.int IntKind.i64 i, Value.slice a l c,
  Value.slice a_5 l_4 c_4, Value.slice a_6 l_5 c_5,
  Value.slice a_7 l_6 c_6, Value.int IntKind.i64 i_3,
  Value.int IntKind.i64 i_4, Value.bool b])
  w1 ∧
  ∃ (i : Int),
  ∃ (a : Option Addr),
  ∃ (l : Nat),
  ∃ (c : Nat),
  ∃ (a_8 : Option Addr),
  ∃ (l_7 : Nat),
  ∃ (c_7 : Nat),
  ∃ (a_9 : Option Addr),
  ∃ (l_8 : Nat),
  ∃ (c_8 : Nat),
  ∃ (a_10 : Option Addr),
  ∃ (l_9 : Nat),
  ∃ (c_9 : Nat),
  ∃ (i_5 : Int),
  ∃ (i_6 : Int),
  ∃ (b : Bool),
  Ld Go.Proofs.Try.prog
  (44 : Nat) w1
  (Addr.mk b_1 (0 : Nat)
  none)
  (Value.agg
  #[Value.int
  IntKind.i64 i,
  Value.slice a l c,
  Value.slice a_8
  l_7 c_7,
  Value.slice a_9
  l_8 c_8,
  Value.slice a_10
  l_9 c_9,
  Value.int
  IntKind.i64 i_5,
  Value.int
  IntKind.i64 i_6,
  Value.bool b]) ∧
  R
  (Ending.returned
  (Value.agg
  #[Value.int
  IntKind.i64 i,
  Value.slice a l
  c,
  Value.slice a_8
  l_7 c_7,
  Value.slice a_9
  l_8 c_8,
  Value.slice a_10
  l_9 c_9,
  Value.int
  IntKind.i64
  i_5,
  Value.int
  IntKind.i64
  i_6,
  Value.bool b]))
  w1)))
  ((0 : Int), (0 : Int)) w1_2
theorem rcrash.eq (d_Room : Int) (d_Filesa : Option Addr) (d_Filesn : Nat) (d_Filesc : Nat) (d_Namesa : Option Addr) (d_Namesn : Nat) (d_Namesc : Nat) (d_Firma : Option Addr) (d_Firmn : Nat) (d_Firmc : Nat) (d_Sincea : Option Addr) (d_Sincen : Nat) (d_Sincec : Nat) (d_Armed : Int) (d_Denied : Int) (d_Dead : Bool) (names : Int) (picksa : Option Addr) (picksn : Nat) (picksc : Nat) (w : World) (R : Ending → World → Prop) : bodyV Go.Proofs.Try.prog rcrash.an Go.Proofs.Try.f48 [.agg #[.int .i64 d_Room, .slice d_Filesa d_Filesn d_Filesc, .slice d_Namesa d_Namesn d_Namesc, .slice d_Firma d_Firmn d_Firmc, .slice d_Sincea d_Sincen d_Sincec, .int .i64 d_Armed, .int .i64 d_Denied, .bool d_Dead], .int .i64 names, .slice picksa picksn picksc] w R = rcrash.vc d_Room d_Filesa d_Filesn d_Filesc d_Namesa d_Namesn d_Namesc d_Firma d_Firmn d_Firmc d_Sincea d_Sincen d_Sincec d_Armed d_Denied d_Dead names picksa picksn picksc w R := by kernel_rfl
theorem rcrash.ok (d_Room : Int) (d_Filesa : Option Addr) (d_Filesn : Nat) (d_Filesc : Nat) (d_Namesa : Option Addr) (d_Namesn : Nat) (d_Namesc : Nat) (d_Firma : Option Addr) (d_Firmn : Nat) (d_Firmc : Nat) (d_Sincea : Option Addr) (d_Sincen : Nat) (d_Sincec : Nat) (d_Armed : Int) (d_Denied : Int) (d_Dead : Bool) (names : Int) (picksa : Option Addr) (picksn : Nat) (picksc : Nat) (w : World) (R : Ending → World → Prop) (h : rcrash.vc d_Room d_Filesa d_Filesn d_Filesc d_Namesa d_Namesn d_Namesc d_Firma d_Firmn d_Firmc d_Sincea d_Sincen d_Sincec d_Armed d_Denied d_Dead names picksa picksn picksc w R) : Calls Go.Proofs.Try.prog 48 #[.agg #[.int .i64 d_Room, .slice d_Filesa d_Filesn d_Filesc, .slice d_Namesa d_Namesn d_Namesc, .slice d_Firma d_Firmn d_Firmc, .slice d_Sincea d_Sincen d_Sincec, .int .i64 d_Armed, .int .i64 d_Denied, .bool d_Dead], .int .i64 names, .slice picksa picksn picksc] w R :=
  calls_of_bodyV noNum (an := rcrash.an) (args := [.agg #[.int .i64 d_Room, .slice d_Filesa d_Filesn d_Filesc, .slice d_Namesa d_Namesn d_Namesc, .slice d_Firma d_Firmn d_Firmc, .slice d_Sincea d_Sincen d_Sincec, .int .i64 d_Armed, .int .i64 d_Denied, .bool d_Dead], .int .i64 names, .slice picksa picksn picksc]) Go.Proofs.Try.func48 (by kernel_rfl) ((rcrash.eq d_Room d_Filesa d_Filesn d_Filesc d_Namesa d_Namesn d_Namesc d_Firma d_Firmn d_Firmc d_Sincea d_Sincen d_Sincec d_Armed d_Denied d_Dead names picksa picksn picksc w R).mpr h)

/-- (*incunable/vault.Disk).Names -/
def names.an : An := { wraps := [], loops := [], joins := [], ranges := [] }
def names.vc (d : Option Addr) (w : World) (R : Ending → World → Prop) : Prop :=
  onP d fun (a : Addr) ↦
  ∃ (m : Option Nat),
  Ld Go.Proofs.Try.prog (71 : Nat) w (Addr.add a (2 : Nat)) (Value.map m) ∧
  CallV Go.Proofs.Try.prog (53 : Nat) [Value.map m] w fun (e : Ending) (w' : World) ↦
  ∃ (v : Value),
  e = Ending.returned v ∧
  CallV Go.Proofs.Try.prog (52 : Nat) [v] w' fun (e : Ending) (w' : World) ↦
  ∃ (a : Option Addr), ∃ (l : Nat), ∃ (c : Nat), e = Ending.returned (Value.slice a l c) ∧ R (Ending.returned (Value.slice a l c)) w'
theorem names.eq (d : Option Addr) (w : World) (R : Ending → World → Prop) : bodyV Go.Proofs.Try.prog names.an Go.Proofs.Try.f23 [.pointer d] w R = names.vc d w R := by kernel_rfl
theorem names.ok (d : Option Addr) (w : World) (R : Ending → World → Prop) (h : names.vc d w R) : Calls Go.Proofs.Try.prog 23 #[.pointer d] w R :=
  calls_of_bodyV noNum (an := names.an) (args := [.pointer d]) Go.Proofs.Try.func23 (by kernel_rfl) ((names.eq d w R).mpr h)

/-- incunable/incunableref09.Do -/
def rdo.an : An := { wraps := [], loops := [], joins := [(11, [(41, .inr 0)]), (18, [(80, .inr 0)]), (23, []), (20, [(95, .inr 0)]), (26, [])], ranges := [] }
def rdo.vc (d_Room : Int) (d_Filesa : Option Addr) (d_Filesn : Nat) (d_Filesc : Nat) (d_Namesa : Option Addr) (d_Namesn : Nat) (d_Namesc : Nat) (d_Firma : Option Addr) (d_Firmn : Nat) (d_Firmc : Nat) (d_Sincea : Option Addr) (d_Sincen : Nat) (d_Sincec : Nat) (d_Armed : Int) (d_Denied : Int) (d_Dead : Bool) (o_Kind : Int) (o_N : Int) (o_Name : ByteArray) (o_To : ByteArray) (o_Ba : Option Addr) (o_Bn : Nat) (o_Bc : Nat) (o_Picksa : Option Addr) (o_Picksn : Nat) (o_Picksc : Nat) (w : World) (R : Ending → World → Prop) : Prop :=
  ∀ (b : Nat) (w1 : World),
  New w
  (Obj.cells
  #[Value.int IntKind.i64 d_Room, Value.slice d_Filesa d_Filesn d_Filesc, Value.slice d_Namesa d_Namesn d_Namesc, Value.slice d_Firma d_Firmn d_Firmc, Value.slice d_Sincea d_Sincen d_Sincec,
  Value.int IntKind.i64 d_Armed, Value.int IntKind.i64 d_Denied, Value.bool d_Dead]
  (44 : Nat))
  b w1 →
  ∀ (b_1 : Nat) (w1_1 : World),
  New w1
  (Obj.cells #[Value.int IntKind.i64 o_Kind, Value.int IntKind.i64 o_N, Value.string o_Name, Value.string o_To, Value.slice o_Ba o_Bn o_Bc, Value.slice o_Picksa o_Picksn o_Picksc] (49 : Nat))
  b_1 w1_1 →
  ∀ (b_2 : Nat) (w1 : World),
  New w1_1
  (Obj.cells
  #[Value.int IntKind.i64 (0 : Int), Value.slice none (0 : Nat) (0 : Nat), Value.slice none (0 : Nat) (0 : Nat), Value.slice none (0 : Nat) (0 : Nat),
  Value.slice none (0 : Nat) (0 : Nat), Value.int IntKind.i64 (0 : Int), Value.int IntKind.i64 (0 : Int), Value.bool false]
  (44 : Nat))
  b_2 w1 →
  ∀ (b_3 : Nat) (w1_2 : World),
  New w1 (Obj.cells #[Value.string (ByteArray.mk #[]), Value.int IntKind.i64 (0 : Int)] (53 : Nat)) b_3 w1_2 →
  ∃ (i : Int),
  Ld Go.Proofs.Try.prog (3 : Nat) w1_2 (Addr.mk b_1 (0 : Nat) none) (Value.int IntKind.i64 i) ∧
  br (decide (i = (7 : Int)))
  (∃ (i : Int),
  Ld Go.Proofs.Try.prog (3 : Nat) w1_2 (Addr.mk b_1 (1 : Nat) none) (Value.int IntKind.i64 i) ∧
  ∃ (w1 : World),
  St Go.Proofs.Try.prog (3 : Nat) w1_2 (Addr.mk b (5 : Nat) none) (Value.int IntKind.i64 (max i (0 : Int))) w1 ∧
  ∃ (i : Int),
  ∃ (a : Option Addr),
  ∃ (l : Nat),
  ∃ (c : Nat),
  ∃ (a_1 : Option Addr),
  ∃ (l_1 : Nat),
  ∃ (c_1 : Nat),
  ∃ (a_2 : Option Addr),
  ∃ (l_2 : Nat),
  ∃ (c_2 : Nat),
  ∃ (a_3 : Option Addr),
  ∃ (l_3 : Nat),
  ∃ (c_3 : Nat),
  ∃ (i_1 : Int),
  ∃ (i_2 : Int),
  ∃ (b_4 : Bool),
  Ld Go.Proofs.Try.prog (44 : Nat) w1 (Addr.mk b (0 : Nat) none)
  (Value.agg
  #[Value.int IntKind.i64 i, Value.slice a l c, Value.slice a_1 l_1 c_1, Value.slice a_2 l_2 c_2, Value.slice a_3 l_3 c_3,
  Value.int IntKind.i64 i_1, Value.int IntKind.i64 i_2, Value.bool b_4]) ∧
  ∃ (w1_3 : World),
  St Go.Proofs.Try.prog (44 : Nat) w1 (Addr.mk b_2 (0 : Nat) none)
  (Value.agg
  #[Value.int IntKind.i64 i, Value.slice a l c, Value.slice a_1 l_1 c_1, Value.slice a_2 l_2 c_2, Value.slice a_3 l_3 c_3,
  Value.int IntKind.i64 i_1, Value.int IntKind.i64 i_2, Value.bool b_4])
  w1_3 ∧
  ∃ (w1 : World),
  St Go.Proofs.Try.prog (53 : Nat) w1_3 (Addr.mk b_3 (0 : Nat) none)
  (Value.agg #[Value.string (ByteArray.mk #[]), Value.int IntKind.i64 (0 : Int)]) w1 ∧
  ∃ (i : Int),
  ∃ (a : Option Addr),
  ∃ (l : Nat),
  ∃ (c : Nat),
  ∃ (a_4 : Option Addr),
  ∃ (l_4 : Nat),
  ∃ (c_4 : Nat),
  ∃ (a_5 : Option Addr),
  ∃ (l_5 : Nat),
  ∃ (c_5 : Nat),
  ∃ (a_6 : Option Addr),
  ∃ (l_6 : Nat),
  ∃ (c_6 : Nat),
  ∃ (i_3 : Int),
  ∃ (i_4 : Int),
  ∃ (b : Bool),
  Ld Go.Proofs.Try.prog (44 : Nat) w1 (Addr.mk b_2 (0 : Nat) none)
  (Value.agg
  #[Value.int IntKind.i64 i, Value.slice a l c, Value.slice a_4 l_4 c_4,
  Value.slice a_5 l_5 c_5, Value.slice a_6 l_6 c_6, Value.int IntKind.i64 i_3,
  Value.int IntKind.i64 i_4, Value.bool b]) ∧
  ∃ (s : ByteArray),
  ∃ (i_5 : Int),
  Ld Go.Proofs.Try.prog (53 : Nat) w1 (Addr.mk b_3 (0 : Nat) none)
  (Value.agg #[Value.string s, Value.int IntKind.i64 i_5]) ∧
  R
  (Ending.returned
  (Value.tuple
  #[Value.agg
  #[Value.int IntKind.i64 i, Value.slice a l c, Value.slice a_4 l_4 c_4,
  Value.slice a_5 l_5 c_5, Value.slice a_6 l_6 c_6, Value.int IntKind.i64 i_3,
  Value.int IntKind.i64 i_4, Value.bool b],
  Value.agg #[Value.string s, Value.int IntKind.i64 i_5]]))
  w1)
  (br (decide (i = (8 : Int)))
  (∃ (i : Int),
  Ld Go.Proofs.Try.prog (3 : Nat) w1_2 (Addr.mk b_1 (1 : Nat) none) (Value.int IntKind.i64 i) ∧
  ∃ (w1 : World),
  St Go.Proofs.Try.prog (3 : Nat) w1_2 (Addr.mk b (6 : Nat) none) (Value.int IntKind.i64 (max i (0 : Int))) w1 ∧
  ∃ (i : Int),
  ∃ (a : Option Addr),
  ∃ (l : Nat),
  ∃ (c : Nat),
  ∃ (a_1 : Option Addr),
  ∃ (l_1 : Nat),
  ∃ (c_1 : Nat),
  ∃ (a_2 : Option Addr),
  ∃ (l_2 : Nat),
  ∃ (c_2 : Nat),
  ∃ (a_3 : Option Addr),
  ∃ (l_3 : Nat),
  ∃ (c_3 : Nat),
  ∃ (i_1 : Int),
  ∃ (i_2 : Int),
  ∃ (b_4 : Bool),
  Ld Go.Proofs.Try.prog (44 : Nat) w1 (Addr.mk b (0 : Nat) none)
  (Value.agg
  #[Value.int IntKind.i64 i, Value.slice a l c, Value.slice a_1 l_1 c_1, Value.slice a_2 l_2 c_2, Value.slice a_3 l_3 c_3,
  Value.int IntKind.i64 i_1, Value.int IntKind.i64 i_2, Value.bool b_4]) ∧
  ∃ (w1_3 : World),
  St Go.Proofs.Try.prog (44 : Nat) w1 (Addr.mk b_2 (0 : Nat) none)
  (Value.agg
  #[Value.int IntKind.i64 i, Value.slice a l c, Value.slice a_1 l_1 c_1, Value.slice a_2 l_2 c_2, Value.slice a_3 l_3 c_3,
  Value.int IntKind.i64 i_1, Value.int IntKind.i64 i_2, Value.bool b_4])
  w1_3 ∧
  ∃ (w1 : World),
  St Go.Proofs.Try.prog (53 : Nat) w1_3 (Addr.mk b_3 (0 : Nat) none)
  (Value.agg #[Value.string (ByteArray.mk #[]), Value.int IntKind.i64 (0 : Int)]) w1 ∧
  ∃ (i : Int),
  ∃ (a : Option Addr),
  ∃ (l : Nat),
  ∃ (c : Nat),
  ∃ (a_4 : Option Addr),
  ∃ (l_4 : Nat),
  ∃ (c_4 : Nat),
  ∃ (a_5 : Option Addr),
  ∃ (l_5 : Nat),
  ∃ (c_5 : Nat),
  ∃ (a_6 : Option Addr),
  ∃ (l_6 : Nat),
  ∃ (c_6 : Nat),
  ∃ (i_3 : Int),
  ∃ (i_4 : Int),
  ∃ (b : Bool),
  Ld Go.Proofs.Try.prog (44 : Nat) w1 (Addr.mk b_2 (0 : Nat) none)
  (Value.agg
  #[Value.int IntKind.i64 i, Value.slice a l c, Value.slice a_4 l_4 c_4,
  Value.slice a_5 l_5 c_5, Value.slice a_6 l_6 c_6, Value.int IntKind.i64 i_3,
  Value.int IntKind.i64 i_4, Value.bool b]) ∧
  ∃ (s : ByteArray),
  ∃ (i_5 : Int),
  Ld Go.Proofs.Try.prog (53 : Nat) w1 (Addr.mk b_3 (0 : Nat) none)
  (Value.agg #[Value.string s, Value.int IntKind.i64 i_5]) ∧
  R
  (Ending.returned
  (Value.tuple
  #[Value.agg
  #[Value.int IntKind.i64 i, Value.slice a l c, Value.slice a_4 l_4 c_4,
  Value.slice a_5 l_5 c_5, Value.slice a_6 l_6 c_6,
  Value.int IntKind.i64 i_3, Value.int IntKind.i64 i_4, Value.bool b],
  Value.agg #[Value.string s, Value.int IntKind.i64 i_5]]))
  w1)
  (br (decide (i = (9 : Int)))
  (∃ (i : Int),
  ∃ (a : Option Addr),
  ∃ (l : Nat),
  ∃ (c : Nat),
  ∃ (a_1 : Option Addr),
  ∃ (l_1 : Nat),
  ∃ (c_1 : Nat),
  ∃ (a_2 : Option Addr),
  ∃ (l_2 : Nat),
  ∃ (c_2 : Nat),
  ∃ (a_3 : Option Addr),
  ∃ (l_3 : Nat),
  ∃ (c_3 : Nat),
  ∃ (i_1 : Int),
  ∃ (i_2 : Int),
  ∃ (b_4 : Bool),
  Ld Go.Proofs.Try.prog (44 : Nat) w1_2 (Addr.mk b (0 : Nat) none)
  (Value.agg
  #[Value.int IntKind.i64 i, Value.slice a l c, Value.slice a_1 l_1 c_1, Value.slice a_2 l_2 c_2, Value.slice a_3 l_3 c_3,
  Value.int IntKind.i64 i_1, Value.int IntKind.i64 i_2, Value.bool b_4]) ∧
  ∃ (i_3 : Int),
  Ld Go.Proofs.Try.prog (3 : Nat) w1_2 (Addr.mk b_1 (1 : Nat) none) (Value.int IntKind.i64 i_3) ∧
  ∃ (a_4 : Option Addr),
  ∃ (l_4 : Nat),
  ∃ (c_4 : Nat),
  Ld Go.Proofs.Try.prog (47 : Nat) w1_2 (Addr.mk b_1 (5 : Nat) none) (Value.slice a_4 l_4 c_4) ∧
  CallV Go.Proofs.Try.prog (48 : Nat)
  [Value.agg
  #[Value.int IntKind.i64 i, Value.slice a l c, Value.slice a_1 l_1 c_1, Value.slice a_2 l_2 c_2, Value.slice a_3 l_3 c_3,
  Value.int IntKind.i64 i_1, Value.int IntKind.i64 i_2, Value.bool b_4],
  Value.int IntKind.i64 i_3, Value.slice a_4 l_4 c_4]
  w1_2 fun (e : Ending) (w' : World) ↦
  ∃ (i : Int),
  ∃ (a : Option Addr),
  ∃ (l : Nat),
  ∃ (c : Nat),
  ∃ (a_5 : Option Addr),
  ∃ (l_5 : Nat),
  ∃ (c_5 : Nat),
  ∃ (a_6 : Option Addr),
  ∃ (l_6 : Nat),
  ∃ (c_6 : Nat),
  ∃ (a_7 : Option Addr),
  ∃ (l_7 : Nat),
  ∃ (c_7 : Nat),
  ∃ (i_4 : Int),
  ∃ (i_5 : Int),
  ∃ (b : Bool),
  e =
  Ending.returned
  (Value.agg
  #[Value.int IntKind.i64 i, Value.slice a l c, Value.slice a_5 l_5 c_5,
  Value.slice a_6 l_6 c_6, Value.slice a_7 l_7 c_7, Value.int IntKind.i64 i_4,
  Value.int IntKind.i64 i_5, Value.bool b]) ∧
  ∃ (w1 : World),
  St Go.Proofs.Try.prog (44 : Nat) w' (Addr.mk b_2 (0 : Nat) none)
  (Value.agg
  #[Value.int IntKind.i64 i, Value.slice a l c, Value.slice a_5 l_5 c_5,
  Value.slice a_6 l_6 c_6, Value.slice a_7 l_7 c_7, Value.int IntKind.i64 i_4,
  Value.int IntKind.i64 i_5, Value.bool b])
  w1 ∧
  ∃ (w1_3 : World),
  St Go.Proofs.Try.prog (53 : Nat) w1 (Addr.mk b_3 (0 : Nat) none)
  (Value.agg #[Value.string (ByteArray.mk #[]), Value.int IntKind.i64 (0 : Int)])
  w1_3 ∧
  ∃ (i : Int),
  ∃ (a : Option Addr),
  ∃ (l : Nat),
  ∃ (c : Nat),
  ∃ (a_8 : Option Addr),
  ∃ (l_8 : Nat),
  ∃ (c_8 : Nat),
  ∃ (a_9 : Option Addr),
  ∃ (l_9 : Nat),
  ∃ (c_9 : Nat),
  ∃ (a_10 : Option Addr),
  ∃ (l_10 : Nat),
  ∃ (c_10 : Nat),
  ∃ (i_6 : Int),
  ∃ (i_7 : Int),
  ∃ (b : Bool),
  Ld Go.Proofs.Try.prog (44 : Nat) w1_3
  (Addr.mk b_2 (0 : Nat) none)
  (Value.agg
  #[Value.int IntKind.i64 i, Value.slice a l c,
  Value.slice a_8 l_8 c_8,
  Value.slice a_9 l_9 c_9,
  Value.slice a_10 l_10 c_10,
  Value.int IntKind.i64 i_6,
  Value.int IntKind.i64 i_7, Value.bool b]) ∧
  ∃ (s : ByteArray),
  ∃ (i_8 : Int),
  Ld Go.Proofs.Try.prog (53 : Nat) w1_3
  (Addr.mk b_3 (0 : Nat) none)
  (Value.agg
  #[Value.string s,
  Value.int IntKind.i64 i_8]) ∧
  R
  (Ending.returned
  (Value.tuple
  #[Value.agg
  #[Value.int IntKind.i64 i,
  Value.slice a l c,
  Value.slice a_8 l_8 c_8,
  Value.slice a_9 l_9 c_9,
  Value.slice a_10 l_10 c_10,
  Value.int IntKind.i64 i_6,
  Value.int IntKind.i64 i_7,
  Value.bool b],
  Value.agg
  #[Value.string s,
  Value.int IntKind.i64 i_8]]))
  w1_3)
  (JoinP
  (fun (s : Bool) (w' : World) ↦
  br s
  (∃ (i : Int),
  ∃ (a : Option Addr),
  ∃ (l : Nat),
  ∃ (c : Nat),
  ∃ (a_1 : Option Addr),
  ∃ (l_1 : Nat),
  ∃ (c_1 : Nat),
  ∃ (a_2 : Option Addr),
  ∃ (l_2 : Nat),
  ∃ (c_2 : Nat),
  ∃ (a_3 : Option Addr),
  ∃ (l_3 : Nat),
  ∃ (c_3 : Nat),
  ∃ (i_1 : Int),
  ∃ (i_2 : Int),
  ∃ (b_4 : Bool),
  Ld Go.Proofs.Try.prog (44 : Nat) w' (Addr.mk b (0 : Nat) none)
  (Value.agg
  #[Value.int IntKind.i64 i, Value.slice a l c, Value.slice a_1 l_1 c_1, Value.slice a_2 l_2 c_2, Value.slice a_3 l_3 c_3,
  Value.int IntKind.i64 i_1, Value.int IntKind.i64 i_2, Value.bool b_4]) ∧
  ∃ (w1 : World),
  St Go.Proofs.Try.prog (44 : Nat) w' (Addr.mk b_2 (0 : Nat) none)
  (Value.agg
  #[Value.int IntKind.i64 i, Value.slice a l c, Value.slice a_1 l_1 c_1, Value.slice a_2 l_2 c_2, Value.slice a_3 l_3 c_3,
  Value.int IntKind.i64 i_1, Value.int IntKind.i64 i_2, Value.bool b_4])
  w1 ∧
  ∃ (w1_3 : World),
  St Go.Proofs.Try.prog (53 : Nat) w1 (Addr.mk b_3 (0 : Nat) none)
  (Value.agg #[Value.string (ByteArray.mk #[]), Value.int IntKind.i64 (0 : Int)]) w1_3 ∧
  ∃ (i : Int),
  ∃ (a : Option Addr),
  ∃ (l : Nat),
  ∃ (c : Nat),
  ∃ (a_4 : Option Addr),
  ∃ (l_4 : Nat),
  ∃ (c_4 : Nat),
  ∃ (a_5 : Option Addr),
  ∃ (l_5 : Nat),
  ∃ (c_5 : Nat),
  ∃ (a_6 : Option Addr),
  ∃ (l_6 : Nat),
  ∃ (c_6 : Nat),
  ∃ (i_3 : Int),
  ∃ (i_4 : Int),
  ∃ (b : Bool),
  Ld Go.Proofs.Try.prog (44 : Nat) w1_3 (Addr.mk b_2 (0 : Nat) none)
  (Value.agg
  #[Value.int IntKind.i64 i, Value.slice a l c, Value.slice a_4 l_4 c_4,
  Value.slice a_5 l_5 c_5, Value.slice a_6 l_6 c_6, Value.int IntKind.i64 i_3,
  Value.int IntKind.i64 i_4, Value.bool b]) ∧
  ∃ (s : ByteArray),
  ∃ (i_5 : Int),
  Ld Go.Proofs.Try.prog (53 : Nat) w1_3 (Addr.mk b_3 (0 : Nat) none)
  (Value.agg #[Value.string s, Value.int IntKind.i64 i_5]) ∧
  R
  (Ending.returned
  (Value.tuple
  #[Value.agg
  #[Value.int IntKind.i64 i, Value.slice a l c, Value.slice a_4 l_4 c_4,
  Value.slice a_5 l_5 c_5, Value.slice a_6 l_6 c_6,
  Value.int IntKind.i64 i_3, Value.int IntKind.i64 i_4, Value.bool b],
  Value.agg #[Value.string s, Value.int IntKind.i64 i_5]]))
  w1_3)
  (∃ (i : Int),
  ∃ (a : Option Addr),
  ∃ (l : Nat),
  ∃ (c : Nat),
  ∃ (a_1 : Option Addr),
  ∃ (l_1 : Nat),
  ∃ (c_1 : Nat),
  ∃ (a_2 : Option Addr),
  ∃ (l_2 : Nat),
  ∃ (c_2 : Nat),
  ∃ (a_3 : Option Addr),
  ∃ (l_3 : Nat),
  ∃ (c_3 : Nat),
  ∃ (i_1 : Int),
  ∃ (i_2 : Int),
  ∃ (b_4 : Bool),
  Ld Go.Proofs.Try.prog (44 : Nat) w' (Addr.mk b (0 : Nat) none)
  (Value.agg
  #[Value.int IntKind.i64 i, Value.slice a l c, Value.slice a_1 l_1 c_1, Value.slice a_2 l_2 c_2, Value.slice a_3 l_3 c_3,
  Value.int IntKind.i64 i_1, Value.int IntKind.i64 i_2, Value.bool b_4]) ∧
  ∃ (i_3 : Int),
  ∃ (i_4 : Int),
  ∃ (s : ByteArray),
  ∃ (s_1 : ByteArray),
  ∃ (a_4 : Option Addr),
  ∃ (l_4 : Nat),
  ∃ (c_4 : Nat),
  ∃ (a_5 : Option Addr),
  ∃ (l_5 : Nat),
  ∃ (c_5 : Nat),
  Ld Go.Proofs.Try.prog (49 : Nat) w' (Addr.mk b_1 (0 : Nat) none)
  (Value.agg
  #[Value.int IntKind.i64 i_3, Value.int IntKind.i64 i_4, Value.string s, Value.string s_1,
  Value.slice a_4 l_4 c_4, Value.slice a_5 l_5 c_5]) ∧
  CallV Go.Proofs.Try.prog (49 : Nat)
  [Value.agg
  #[Value.int IntKind.i64 i, Value.slice a l c, Value.slice a_1 l_1 c_1, Value.slice a_2 l_2 c_2,
  Value.slice a_3 l_3 c_3, Value.int IntKind.i64 i_1, Value.int IntKind.i64 i_2, Value.bool b_4],
  Value.agg
  #[Value.int IntKind.i64 i_3, Value.int IntKind.i64 i_4, Value.string s, Value.string s_1,
  Value.slice a_4 l_4 c_4, Value.slice a_5 l_5 c_5]]
  w' fun (e : Ending) (w' : World) ↦
  ∃ (i : Int),
  e = Ending.returned (Value.int IntKind.i64 i) ∧
  br (!decide (i = (0 : Int)))
  (∃ (i_5 : Int),
  ∃ (a : Option Addr),
  ∃ (l : Nat),
  ∃ (c : Nat),
  ∃ (a_6 : Option Addr),
  ∃ (l_6 : Nat),
  ∃ (c_6 : Nat),
  ∃ (a_7 : Option Addr),
  ∃ (l_7 : Nat),
  ∃ (c_7 : Nat),
  ∃ (a_8 : Option Addr),
  ∃ (l_8 : Nat),
  ∃ (c_8 : Nat),
  ∃ (i_6 : Int),
  ∃ (i_7 : Int),
  ∃ (b_5 : Bool),
  Ld Go.Proofs.Try.prog (44 : Nat) w' (Addr.mk b (0 : Nat) none)
  (Value.agg
  #[Value.int IntKind.i64 i_5, Value.slice a l c,
  Value.slice a_6 l_6 c_6, Value.slice a_7 l_7 c_7,
  Value.slice a_8 l_8 c_8, Value.int IntKind.i64 i_6,
  Value.int IntKind.i64 i_7, Value.bool b_5]) ∧
  ∃ (w1 : World),
  St Go.Proofs.Try.prog (44 : Nat) w' (Addr.mk b_2 (0 : Nat) none)
  (Value.agg
  #[Value.int IntKind.i64 i_5, Value.slice a l c,
  Value.slice a_6 l_6 c_6, Value.slice a_7 l_7 c_7,
  Value.slice a_8 l_8 c_8, Value.int IntKind.i64 i_6,
  Value.int IntKind.i64 i_7, Value.bool b_5])
  w1 ∧
  ∃ (w1_3 : World),
  St Go.Proofs.Try.prog (53 : Nat) w1 (Addr.mk b_3 (0 : Nat) none)
  (Value.agg
  #[Value.string (ByteArray.mk #[]),
  Value.int IntKind.i64 i])
  w1_3 ∧
  ∃ (i : Int),
  ∃ (a : Option Addr),
  ∃ (l : Nat),
  ∃ (c : Nat),
  ∃ (a_9 : Option Addr),
  ∃ (l_9 : Nat),
  ∃ (c_9 : Nat),
  ∃ (a_10 : Option Addr),
  ∃ (l_10 : Nat),
  ∃ (c_10 : Nat),
  ∃ (a_11 : Option Addr),
  ∃ (l_11 : Nat),
  ∃ (c_11 : Nat),
  ∃ (i_8 : Int),
  ∃ (i_9 : Int),
  ∃ (b : Bool),
  Ld Go.Proofs.Try.prog (44 : Nat)
  w1_3
  (Addr.mk b_2 (0 : Nat)
  none)
  (Value.agg
  #[Value.int IntKind.i64
  i,
  Value.slice a l c,
  Value.slice a_9 l_9
  c_9,
  Value.slice a_10 l_10
  c_10,
  Value.slice a_11 l_11
  c_11,
  Value.int IntKind.i64
  i_8,
  Value.int IntKind.i64
  i_9,
  Value.bool b]) ∧
  ∃ (s : ByteArray),
  ∃ (i_10 : Int),
  Ld Go.Proofs.Try.prog
  (53 : Nat) w1_3
  (Addr.mk b_3
  (0 : Nat) none)
  (Value.agg
  #[Value.string s,
  Value.int
  IntKind.i64
  i_10]) ∧
  R
  (Ending.returned
  (Value.tuple
  #[Value.agg
  #[Value.int
  IntKind.i64
  i,
  Value.slice
  a l c,
  Value.slice
  a_9 l_9
  c_9,
  Value.slice
  a_10
  l_10
  c_10,
  Value.slice
  a_11
  l_11
  c_11,
  Value.int
  IntKind.i64
  i_8,
  Value.int
  IntKind.i64
  i_9,
  Value.bool
  b],
  Value.agg
  #[Value.string
  s,
  Value.int
  IntKind.i64
  i_10]]))
  w1_3)
  (∃ (i : Int),
  Ld Go.Proofs.Try.prog (3 : Nat) w' (Addr.mk b_1 (0 : Nat) none) (Value.int IntKind.i64 i) ∧
  br (decide (i = (2 : Int)))
  (∃ (i : Int),
  ∃ (a : Option Addr),
  ∃ (l : Nat),
  ∃ (c : Nat),
  ∃ (a_6 : Option Addr),
  ∃ (l_6 : Nat),
  ∃ (c_6 : Nat),
  ∃ (a_7 : Option Addr),
  ∃ (l_7 : Nat),
  ∃ (c_7 : Nat),
  ∃ (a_8 : Option Addr),
  ∃ (l_8 : Nat),
  ∃ (c_8 : Nat),
  ∃ (i_5 : Int),
  ∃ (i_6 : Int),
  ∃ (b_5 : Bool),
  Ld Go.Proofs.Try.prog (44 : Nat) (World.drew w')
  (Addr.mk b (0 : Nat) none)
  (Value.agg
  #[Value.int IntKind.i64 i, Value.slice a l c,
  Value.slice a_6 l_6 c_6, Value.slice a_7 l_7 c_7,
  Value.slice a_8 l_8 c_8, Value.int IntKind.i64 i_5,
  Value.int IntKind.i64 i_6, Value.bool b_5]) ∧
  ∃ (a_9 : Option Addr),
  ∃ (l_9 : Nat),
  ∃ (c_9 : Nat),
  Ld Go.Proofs.Try.prog (40 : Nat) (World.drew w')
  (Addr.mk b (1 : Nat) none) (Value.slice a_9 l_9 c_9) ∧
  ∃ (a_10 : Option Addr),
  ∃ (l_10 : Nat),
  ∃ (c_10 : Nat),
  Ld Go.Proofs.Try.prog (41 : Nat) (World.drew w')
  (Addr.mk b (2 : Nat) none)
  (Value.slice a_10 l_10 c_10) ∧
  ∃ (s : ByteArray),
  Ld Go.Proofs.Try.prog (9 : Nat) (World.drew w')
  (Addr.mk b_1 (2 : Nat) none)
  (Value.string s) ∧
  ∃ (i_7 : Int),
  Ld Go.Proofs.Try.prog (3 : Nat)
  (World.drew w')
  (Addr.mk b_1 (1 : Nat) none)
  (Value.int IntKind.i64 i_7) ∧
  CallV Go.Proofs.Try.prog (50 : Nat)
  [Value.slice a_10 l_10 c_10,
  Value.string s]
  (World.drew w')
  fun (e : Ending) (w' : World) ↦
  ∃ (i_8 : Int),
  e =
  Ending.returned
  (Value.int IntKind.i64 i_8) ∧
  Ld Go.Proofs.Try.prog (3 : Nat) w'
  (Addr.mk b_1 (1 : Nat) none)
  (Value.int IntKind.i64 i_7) ∧
  Ld Go.Proofs.Try.prog (40 : Nat) w'
  (Addr.mk b (1 : Nat) none)
  (Value.slice a_9 l_9 c_9) ∧
  Ld Go.Proofs.Try.prog (44 : Nat)
  w'
  (Addr.mk b (0 : Nat) none)
  (Value.agg
  #[Value.int IntKind.i64
  i,
  Value.slice a l c,
  Value.slice a_6 l_6
  c_6,
  Value.slice a_7 l_7
  c_7,
  Value.slice a_8 l_8
  c_8,
  Value.int IntKind.i64
  i_5,
  Value.int IntKind.i64
  i_6,
  Value.bool b_5]) ∧
  onP a_9 fun (a_11 : Addr) ↦
  ((0 : Int) ≤ i_8 ∧
  i_8 < (↑l_9 : Int)) ∧
  ∃ (a_12 : Option Addr),
  ∃ (l_11 : Nat),
  ∃ (c_11 : Nat),
  Ld Go.Proofs.Try.prog
  (33 : Nat) w'
  (Addr.add a_11
  (Int.toNat
  i_8 *
  (3 :
  Nat)))
  (Value.slice
  a_12 l_11
  c_11) ∧
  onP a_12
  fun
  (a_13 :
  Addr) ↦
  ((0 : Int) ≤
  i_7 ∧
  i_7 <
  (↑l_11 :
  Int)) ∧
  ∃ (s :
  ByteArray),
  Ld
  Go.Proofs.Try.prog
  (9 :
  Nat)
  w'
  (Addr.add
  a_13
  (Int.toNat
  i_7 *
  (1 :
  Nat)))
  (Value.string
  s) ∧
  ∃ (w1 :
  World),
  St
  Go.Proofs.Try.prog
  (44 :
  Nat)
  w'
  (Addr.mk
  b_2
  (0 :
  Nat)
  none)
  (Value.agg
  #[Value.int
  IntKind.i64
  i,
  Value.slice
  a
  l
  c,
  Value.slice
  a_6
  l_6
  c_6,
  Value.slice
  a_7
  l_7
  c_7,
  Value.slice
  a_8
  l_8
  c_8,
  Value.int
  IntKind.i64
  i_5,
  Value.int
  IntKind.i64
  i_6,
  Value.bool
  b_5])
  w1 ∧
  Ld
  Go.Proofs.Try.prog
  (9 :
  Nat)
  w1
  (Addr.add
  a_13
  (Int.toNat
  i_7 *
  (1 :
  Nat)))
  (Value.string
  s) ∧
  Ld
  Go.Proofs.Try.prog
  (33 :
  Nat)
  w1
  (Addr.add
  a_11
  (Int.toNat
  i_8 *
  (3 :
  Nat)))
  (Value.slice
  a_12
  l_11
  c_11) ∧
  Ld
  Go.Proofs.Try.prog
  (3 :
  Nat)
  w1
  (Addr.mk
  b_1
  (1 :
  Nat)
  none)
  (Value.int
  IntKind.i64
  i_7) ∧
  Ld
  Go.Proofs.Try.prog
  (40 :
  Nat)
  w1
  (Addr.mk
  b
  (1 :
  Nat)
  none)
  (Value.slice
  a_9
  l_9
  c_9) ∧
  ∃
  (w1_3
  :
  World),
  St
  Go.Proofs.Try.prog
  (53 :
  Nat)
  w1
  (Addr.mk
  b_3
  (0 :
  Nat)
  none)
  (Value.agg
  #[Value.string
  s,
  Value.int
  IntKind.i64
  (0 :
  Int)])
  w1_3 ∧
  ∃
  (i
  :
  Int),
  ∃
  (a
  :
  Option
  Addr),
  ∃
  (l
  :
  Nat),
  ∃
  (c
  :
  Nat),
  ∃
  (a_14
  :
  Option
  Addr),
  ∃
  (l_12
  :
  Nat),
  ∃
  (c_12
  :
  Nat),
  ∃
  (a_15
  :
  Option
  Addr),
  ∃
  (l_13
  :
  Nat),
  ∃
  (c_13
  :
  Nat),
  ∃
  (a_16
  :
  Option
  Addr),
  ∃
  (l_14
  :
  Nat),
  ∃
  (c_14
  :
  Nat),
  ∃
  (i_9
  :
  Int),
  ∃
  (i_10
  :
  Int),
  ∃
  (b
  :
  Bool),
  Ld
  Go.Proofs.Try.prog
  (44 :
  Nat)
  w1_3
  (Addr.mk
  b_2
  (0 :
  Nat)
  none)
  (Value.agg
  #[Value.int
  IntKind.i64
  i,
  Value.slice
  a
  l
  c,
  Value.slice
  a_14
  l_12
  c_12,
  Value.slice
  a_15
  l_13
  c_13,
  Value.slice
  a_16
  l_14
  c_14,
  Value.int
  IntKind.i64
  i_9,
  Value.int
  IntKind.i64
  i_10,
  Value.bool
  b]) ∧
  ∃
  (s
  :
  ByteArray),
  ∃
  (i_11
  :
  Int),
  Ld
  Go.Proofs.Try.prog
  (53 :
  Nat)
  w1_3
  (Addr.mk
  b_3
  (0 :
  Nat)
  none)
  (Value.agg
  #[Value.string
  s,
  Value.int
  IntKind.i64
  i_11]) ∧
  R
  (Ending.returned
  (Value.tuple
  #[Value.agg
  #[Value.int
  IntKind.i64
  i,
  Value.slice
  a
  l
  c,
  Value.slice
  a_14
  l_12
  c_12,
  Value.slice
  a_15
  l_13
  c_13,
  Value.slice
  a_16
  l_14
  c_14,
  Value.int
  IntKind.i64
  i_9,
  Value.int
  IntKind.i64
  i_10,
  Value.bool
  b],
  Value.agg
  #[Value.string
  s,
  Value.int
  IntKind.i64
  i_11]]))
  w1_3)
  (JoinP
  (fun (s : Bool) (w' : World) ↦
  br s
  (∃ (i : Int),
  ∃ (a : Option Addr),
  ∃ (l : Nat),
  ∃ (c : Nat),
  ∃ (a_6 : Option Addr),
  ∃ (l_6 : Nat),
  ∃ (c_6 : Nat),
  ∃ (a_7 : Option Addr),
  ∃ (l_7 : Nat),
  ∃ (c_7 : Nat),
  ∃ (a_8 : Option Addr),
  ∃ (l_8 : Nat),
  ∃ (c_8 : Nat),
  ∃ (i_5 : Int),
  ∃ (i_6 : Int),
  ∃ (b_5 : Bool),
  Ld Go.Proofs.Try.prog (44 : Nat) w' (Addr.mk b (0 : Nat) none)
  (Value.agg
  #[Value.int IntKind.i64 i, Value.slice a l c,
  Value.slice a_6 l_6 c_6, Value.slice a_7 l_7 c_7,
  Value.slice a_8 l_8 c_8, Value.int IntKind.i64 i_5,
  Value.int IntKind.i64 i_6, Value.bool b_5]) ∧
  ∃ (w1 : World),
  St Go.Proofs.Try.prog (44 : Nat) w'
  (Addr.mk b_2 (0 : Nat) none)
  (Value.agg
  #[Value.int IntKind.i64 i, Value.slice a l c,
  Value.slice a_6 l_6 c_6,
  Value.slice a_7 l_7 c_7,
  Value.slice a_8 l_8 c_8,
  Value.int IntKind.i64 i_5,
  Value.int IntKind.i64 i_6, Value.bool b_5])
  w1 ∧
  ∃ (w1_3 : World),
  St Go.Proofs.Try.prog (53 : Nat) w1
  (Addr.mk b_3 (0 : Nat) none)
  (Value.agg
  #[Value.string (ByteArray.mk #[]),
  Value.int IntKind.i64 (0 : Int)])
  w1_3 ∧
  ∃ (i : Int),
  ∃ (a : Option Addr),
  ∃ (l : Nat),
  ∃ (c : Nat),
  ∃ (a_9 : Option Addr),
  ∃ (l_9 : Nat),
  ∃ (c_9 : Nat),
  ∃ (a_10 : Option Addr),
  ∃ (l_10 : Nat),
  ∃ (c_10 : Nat),
  ∃ (a_11 : Option Addr),
  ∃ (l_11 : Nat),
  ∃ (c_11 : Nat),
  ∃ (i_7 : Int),
  ∃ (i_8 : Int),
  ∃ (b : Bool),
  Ld Go.Proofs.Try.prog
  (44 : Nat)
  w1_3
  (Addr.mk b_2
  (0 : Nat)
  none)
  (Value.agg
  #[Value.int
  IntKind.i64
  i,
  Value.slice
  a l c,
  Value.slice
  a_9 l_9
  c_9,
  Value.slice
  a_10
  l_10
  c_10,
  Value.slice
  a_11
  l_11
  c_11,
  Value.int
  IntKind.i64
  i_7,
  Value.int
  IntKind.i64
  i_8,
  Value.bool
  b]) ∧
  ∃ (s :
  ByteArray),
  ∃ (i_9 : Int),
  Ld
  Go.Proofs.Try.prog
  (53 :
  Nat)
  w1_3
  (Addr.mk
  b_3
  (0 :
  Nat)
  none)
  (Value.agg
  #[Value.string
  s,
  Value.int
  IntKind.i64
  i_9]) ∧
  R
  (Ending.returned
  (Value.tuple
  #[Value.agg
  #[Value.int
  IntKind.i64
  i,
  Value.slice
  a
  l
  c,
  Value.slice
  a_9
  l_9
  c_9,
  Value.slice
  a_10
  l_10
  c_10,
  Value.slice
  a_11
  l_11
  c_11,
  Value.int
  IntKind.i64
  i_7,
  Value.int
  IntKind.i64
  i_8,
  Value.bool
  b],
  Value.agg
  #[Value.string
  s,
  Value.int
  IntKind.i64
  i_9]]))
  w1_3)
  (JoinP
  (fun (s : PUnit) (w' : World) ↦
  JoinP
  (fun (s : PUnit) (w' : World) ↦
  ∃ (b_5 : Bool),
  Ld Go.Proofs.Try.prog (4 : Nat) w' (Addr.mk b (7 : Nat) none) (Value.bool b_5) ∧
  br b_5
  (∃ (i : Int),
  Ld Go.Proofs.Try.prog (3 : Nat) w' (Addr.mk b_1 (0 : Nat) none)
  (Value.int IntKind.i64 i) ∧
  br (!decide (i = (3 : Int)))
  (∃ (i : Int),
  Ld Go.Proofs.Try.prog (3 : Nat) w' (Addr.mk b_1 (0 : Nat) none)
  (Value.int IntKind.i64 i) ∧
  br (!decide (i = (6 : Int)))
  (∃ (i : Int),
  ∃ (a : Option Addr),
  ∃ (l : Nat),
  ∃ (c : Nat),
  ∃ (a_6 : Option Addr),
  ∃ (l_6 : Nat),
  ∃ (c_6 : Nat),
  ∃ (a_7 : Option Addr),
  ∃ (l_7 : Nat),
  ∃ (c_7 : Nat),
  ∃ (a_8 : Option Addr),
  ∃ (l_8 : Nat),
  ∃ (c_8 : Nat),
  ∃ (i_5 : Int),
  ∃ (i_6 : Int),
  ∃ (b_6 : Bool),
  Ld Go.Proofs.Try.prog (44 : Nat) w'
  (Addr.mk b (0 : Nat) none)
  (Value.agg
  #[Value.int IntKind.i64 i,
  Value.slice a l c,
  Value.slice a_6 l_6 c_6,
  Value.slice a_7 l_7 c_7,
  Value.slice a_8 l_8 c_8,
  Value.int IntKind.i64 i_5,
  Value.int IntKind.i64 i_6,
  Value.bool b_6]) ∧
  ∃ (i_7 : Int),
  ∃ (i_8 : Int),
  ∃ (s : ByteArray),
  ∃ (s_2 : ByteArray),
  ∃ (a_9 : Option Addr),
  ∃ (l_9 : Nat),
  ∃ (c_9 : Nat),
  ∃ (a_10 :
  Option Addr),
  ∃ (l_10 : Nat),
  ∃ (c_10 :
  Nat),
  Ld
  Go.Proofs.Try.prog
  (49 :
  Nat)
  w'
  (Addr.mk
  b_1
  (0 :
  Nat)
  none)
  (Value.agg
  #[Value.int
  IntKind.i64
  i_7,
  Value.int
  IntKind.i64
  i_8,
  Value.string
  s,
  Value.string
  s_2,
  Value.slice
  a_9
  l_9
  c_9,
  Value.slice
  a_10
  l_10
  c_10]) ∧
  CallV
  Go.Proofs.Try.prog
  (51 :
  Nat)
  [Value.agg
  #[Value.int
  IntKind.i64
  i,
  Value.slice
  a
  l
  c,
  Value.slice
  a_6
  l_6
  c_6,
  Value.slice
  a_7
  l_7
  c_7,
  Value.slice
  a_8
  l_8
  c_8,
  Value.int
  IntKind.i64
  i_5,
  Value.int
  IntKind.i64
  i_6,
  Value.bool
  b_6],
  Value.agg
  #[Value.int
  IntKind.i64
  i_7,
  Value.int
  IntKind.i64
  i_8,
  Value.string
  s,
  Value.string
  s_2,
  Value.slice
  a_9
  l_9
  c_9,
  Value.slice
  a_10
  l_10
  c_10]]
  w'
  fun
  (e :
  Ending)
  (w' :
  World) ↦
  ∃ (i :
  Int),
  ∃ (a :
  Option
  Addr),
  ∃ (l
  :
  Nat),
  ∃
  (c
  :
  Nat),
  ∃
  (a_11
  :
  Option
  Addr),
  ∃
  (l_11
  :
  Nat),
  ∃
  (c_11
  :
  Nat),
  ∃
  (a_12
  :
  Option
  Addr),
  ∃
  (l_12
  :
  Nat),
  ∃
  (c_12
  :
  Nat),
  ∃
  (a_13
  :
  Option
  Addr),
  ∃
  (l_13
  :
  Nat),
  ∃
  (c_13
  :
  Nat),
  ∃
  (i_9
  :
  Int),
  ∃
  (i_10
  :
  Int),
  ∃
  (b_7
  :
  Bool),
  e =
  Ending.returned
  (Value.agg
  #[Value.int
  IntKind.i64
  i,
  Value.slice
  a
  l
  c,
  Value.slice
  a_11
  l_11
  c_11,
  Value.slice
  a_12
  l_12
  c_12,
  Value.slice
  a_13
  l_13
  c_13,
  Value.int
  IntKind.i64
  i_9,
  Value.int
  IntKind.i64
  i_10,
  Value.bool
  b_7]) ∧
  ∃
  (w1
  :
  World),
  St
  Go.Proofs.Try.prog
  (44 :
  Nat)
  w'
  (Addr.mk
  b
  (0 :
  Nat)
  none)
  (Value.agg
  #[Value.int
  IntKind.i64
  i,
  Value.slice
  a
  l
  c,
  Value.slice
  a_11
  l_11
  c_11,
  Value.slice
  a_12
  l_12
  c_12,
  Value.slice
  a_13
  l_13
  c_13,
  Value.int
  IntKind.i64
  i_9,
  Value.int
  IntKind.i64
  i_10,
  Value.bool
  b_7])
  w1 ∧
  ∃
  (i
  :
  Int),
  ∃
  (a
  :
  Option
  Addr),
  ∃
  (l
  :
  Nat),
  ∃
  (c
  :
  Nat),
  ∃
  (a_14
  :
  Option
  Addr),
  ∃
  (l_14
  :
  Nat),
  ∃
  (c_14
  :
  Nat),
  ∃
  (a_15
  :
  Option
  Addr),
  ∃
  (l_15
  :
  Nat),
  ∃
  (c_15
  :
  Nat),
  ∃
  (a_16
  :
  Option
  Addr),
  ∃
  (l_16
  :
  Nat),
  ∃
  (c_16
  :
  Nat),
  ∃
  (i_11
  :
  Int),
  ∃
  (i_12
  :
  Int),
  ∃
  (b_8
  :
  Bool),
  Ld
  Go.Proofs.Try.prog
  (44 :
  Nat)
  w1
  (Addr.mk
  b
  (0 :
  Nat)
  none)
  (Value.agg
  #[Value.int
  IntKind.i64
  i,
  Value.slice
  a
  l
  c,
  Value.slice
  a_14
  l_14
  c_14,
  Value.slice
  a_15
  l_15
  c_15,
  Value.slice
  a_16
  l_16
  c_16,
  Value.int
  IntKind.i64
  i_11,
  Value.int
  IntKind.i64
  i_12,
  Value.bool
  b_8]) ∧
  ∃
  (w1_3
  :
  World),
  St
  Go.Proofs.Try.prog
  (44 :
  Nat)
  w1
  (Addr.mk
  b_2
  (0 :
  Nat)
  none)
  (Value.agg
  #[Value.int
  IntKind.i64
  i,
  Value.slice
  a
  l
  c,
  Value.slice
  a_14
  l_14
  c_14,
  Value.slice
  a_15
  l_15
  c_15,
  Value.slice
  a_16
  l_16
  c_16,
  Value.int
  IntKind.i64
  i_11,
  Value.int
  IntKind.i64
  i_12,
  Value.bool
  b_8])
  w1_3 ∧
  ∃
  (w1
  :
  World),
  St
  Go.Proofs.Try.prog
  (53 :
  Nat)
  w1_3
  (Addr.mk
  b_3
  (0 :
  Nat)
  none)
  (Value.agg
  #[Value.string
  (ByteArray.mk
  #[]),
  Value.int
  IntKind.i64
  (93 :
  Int)])
  w1 ∧
  ∃
  (i
  :
  Int),
  ∃
  (a
  :
  Option
  Addr),
  ∃
  (l
  :
  Nat),
  ∃
  (c
  :
  Nat),
  ∃
  (a_17
  :
  Option
  Addr),
  ∃
  (l_17
  :
  Nat),
  ∃
  (c_17
  :
  Nat),
  ∃
  (a_18
  :
  Option
  Addr),
  ∃
  (l_18
  :
  Nat),
  ∃
  (c_18
  :
  Nat),
  ∃
  (a_19
  :
  Option
  Addr),
  ∃
  (l_19
  :
  Nat),
  ∃
  (c_19
  :
  Nat),
  ∃
  (i_13
  :
  Int),
  ∃
  (i_14
  :
  Int),
  ∃
  (b
  :
  Bool),
  Ld
  Go.Proofs.Try.prog
  (44 :
  Nat)
  w1
  (Addr.mk
  b_2
  (0 :
  Nat)
  none)
  (Value.agg
  #[Value.int
  IntKind.i64
  i,
  Value.slice
  a
  l
  c,
  Value.slice
  a_17
  l_17
  c_17,
  Value.slice
  a_18
  l_18
  c_18,
  Value.slice
  a_19
  l_19
  c_19,
  Value.int
  IntKind.i64
  i_13,
  Value.int
  IntKind.i64
  i_14,
  Value.bool
  b]) ∧
  ∃
  (s
  :
  ByteArray),
  ∃
  (i_15
  :
  Int),
  Ld
  Go.Proofs.Try.prog
  (53 :
  Nat)
  w1
  (Addr.mk
  b_3
  (0 :
  Nat)
  none)
  (Value.agg
  #[Value.string
  s,
  Value.int
  IntKind.i64
  i_15]) ∧
  R
  (Ending.returned
  (Value.tuple
  #[Value.agg
  #[Value.int
  IntKind.i64
  i,
  Value.slice
  a
  l
  c,
  Value.slice
  a_17
  l_17
  c_17,
  Value.slice
  a_18
  l_18
  c_18,
  Value.slice
  a_19
  l_19
  c_19,
  Value.int
  IntKind.i64
  i_13,
  Value.int
  IntKind.i64
  i_14,
  Value.bool
  b],
  Value.agg
  #[Value.string
  s,
  Value.int
  IntKind.i64
  i_15]]))
  w1)
  (∃ (i : Int),
  ∃ (a : Option Addr),
  ∃ (l : Nat),
  ∃ (c : Nat),
  ∃ (a_6 : Option Addr),
  ∃ (l_6 : Nat),
  ∃ (c_6 : Nat),
  ∃ (a_7 : Option Addr),
  ∃ (l_7 : Nat),
  ∃ (c_7 : Nat),
  ∃ (a_8 : Option Addr),
  ∃ (l_8 : Nat),
  ∃ (c_8 : Nat),
  ∃ (i_5 : Int),
  ∃ (i_6 : Int),
  ∃ (b_6 : Bool),
  Ld Go.Proofs.Try.prog (44 : Nat) w'
  (Addr.mk b (0 : Nat) none)
  (Value.agg
  #[Value.int IntKind.i64 i,
  Value.slice a l c,
  Value.slice a_6 l_6 c_6,
  Value.slice a_7 l_7 c_7,
  Value.slice a_8 l_8 c_8,
  Value.int IntKind.i64 i_5,
  Value.int IntKind.i64 i_6,
  Value.bool b_6]) ∧
  ∃ (w1 : World),
  St Go.Proofs.Try.prog (44 : Nat)
  w'
  (Addr.mk b_2 (0 : Nat)
  none)
  (Value.agg
  #[Value.int IntKind.i64
  i,
  Value.slice a l c,
  Value.slice a_6 l_6
  c_6,
  Value.slice a_7 l_7
  c_7,
  Value.slice a_8 l_8
  c_8,
  Value.int IntKind.i64
  i_5,
  Value.int IntKind.i64
  i_6,
  Value.bool b_6])
  w1 ∧
  ∃ (w1_3 : World),
  St Go.Proofs.Try.prog
  (53 : Nat) w1
  (Addr.mk b_3 (0 : Nat)
  none)
  (Value.agg
  #[Value.string
  (ByteArray.mk
  #[]),
  Value.int
  IntKind.i64
  (93 : Int)])
  w1_3 ∧
  ∃ (i : Int),
  ∃ (a : Option Addr),
  ∃ (l : Nat),
  ∃ (c : Nat),
  ∃ (a_9 :
  Option Addr),
  ∃ (l_9 : Nat),
  ∃ (c_9 :
  Nat),
  ∃ (a_10 :
  Option
  Addr),
  ∃ (l_10
  :
  Nat),
  ∃
  (c_10
  :
  Nat),
  ∃
  (a_11
  :
  Option
  Addr),
  ∃
  (l_11
  :
  Nat),
  ∃
  (c_11
  :
  Nat),
  ∃
  (i_7
  :
  Int),
  ∃
  (i_8
  :
  Int),
  ∃
  (b
  :
  Bool),
  Ld
  Go.Proofs.Try.prog
  (44 :
  Nat)
  w1_3
  (Addr.mk
  b_2
  (0 :
  Nat)
  none)
  (Value.agg
  #[Value.int
  IntKind.i64
  i,
  Value.slice
  a
  l
  c,
  Value.slice
  a_9
  l_9
  c_9,
  Value.slice
  a_10
  l_10
  c_10,
  Value.slice
  a_11
  l_11
  c_11,
  Value.int
  IntKind.i64
  i_7,
  Value.int
  IntKind.i64
  i_8,
  Value.bool
  b]) ∧
  ∃
  (s
  :
  ByteArray),
  ∃
  (i_9
  :
  Int),
  Ld
  Go.Proofs.Try.prog
  (53 :
  Nat)
  w1_3
  (Addr.mk
  b_3
  (0 :
  Nat)
  none)
  (Value.agg
  #[Value.string
  s,
  Value.int
  IntKind.i64
  i_9]) ∧
  R
  (Ending.returned
  (Value.tuple
  #[Value.agg
  #[Value.int
  IntKind.i64
  i,
  Value.slice
  a
  l
  c,
  Value.slice
  a_9
  l_9
  c_9,
  Value.slice
  a_10
  l_10
  c_10,
  Value.slice
  a_11
  l_11
  c_11,
  Value.int
  IntKind.i64
  i_7,
  Value.int
  IntKind.i64
  i_8,
  Value.bool
  b],
  Value.agg
  #[Value.string
  s,
  Value.int
  IntKind.i64
  i_9]]))
  w1_3))
  (∃ (i : Int),
  ∃ (a : Option Addr),
  ∃ (l : Nat),
  ∃ (c : Nat),
  ∃ (a_6 : Option Addr),
  ∃ (l_6 : Nat),
  ∃ (c_6 : Nat),
  ∃ (a_7 : Option Addr),
  ∃ (l_7 : Nat),
  ∃ (c_7 : Nat),
  ∃ (a_8 : Option Addr),
  ∃ (l_8 : Nat),
  ∃ (c_8 : Nat),
  ∃ (i_5 : Int),
  ∃ (i_6 : Int),
  ∃ (b_6 : Bool),
  Ld Go.Proofs.Try.prog (44 : Nat) w'
  (Addr.mk b (0 : Nat) none)
  (Value.agg
  #[Value.int IntKind.i64 i,
  Value.slice a l c,
  Value.slice a_6 l_6 c_6,
  Value.slice a_7 l_7 c_7,
  Value.slice a_8 l_8 c_8,
  Value.int IntKind.i64 i_5,
  Value.int IntKind.i64 i_6,
  Value.bool b_6]) ∧
  ∃ (w1 : World),
  St Go.Proofs.Try.prog (44 : Nat) w'
  (Addr.mk b_2 (0 : Nat) none)
  (Value.agg
  #[Value.int IntKind.i64 i,
  Value.slice a l c,
  Value.slice a_6 l_6 c_6,
  Value.slice a_7 l_7 c_7,
  Value.slice a_8 l_8 c_8,
  Value.int IntKind.i64 i_5,
  Value.int IntKind.i64 i_6,
  Value.bool b_6])
  w1 ∧
  ∃ (w1_3 : World),
  St Go.Proofs.Try.prog (53 : Nat) w1
  (Addr.mk b_3 (0 : Nat) none)
  (Value.agg
  #[Value.string
  (ByteArray.mk #[]),
  Value.int IntKind.i64
  (93 : Int)])
  w1_3 ∧
  ∃ (i : Int),
  ∃ (a : Option Addr),
  ∃ (l : Nat),
  ∃ (c : Nat),
  ∃ (a_9 : Option Addr),
  ∃ (l_9 : Nat),
  ∃ (c_9 : Nat),
  ∃ (a_10 :
  Option Addr),
  ∃ (l_10 :
  Nat),
  ∃ (c_10 :
  Nat),
  ∃ (a_11 :
  Option
  Addr),
  ∃ (l_11
  :
  Nat),
  ∃
  (c_11
  :
  Nat),
  ∃
  (i_7
  :
  Int),
  ∃
  (i_8
  :
  Int),
  ∃
  (b
  :
  Bool),
  Ld
  Go.Proofs.Try.prog
  (44 :
  Nat)
  w1_3
  (Addr.mk
  b_2
  (0 :
  Nat)
  none)
  (Value.agg
  #[Value.int
  IntKind.i64
  i,
  Value.slice
  a
  l
  c,
  Value.slice
  a_9
  l_9
  c_9,
  Value.slice
  a_10
  l_10
  c_10,
  Value.slice
  a_11
  l_11
  c_11,
  Value.int
  IntKind.i64
  i_7,
  Value.int
  IntKind.i64
  i_8,
  Value.bool
  b]) ∧
  ∃
  (s
  :
  ByteArray),
  ∃
  (i_9
  :
  Int),
  Ld
  Go.Proofs.Try.prog
  (53 :
  Nat)
  w1_3
  (Addr.mk
  b_3
  (0 :
  Nat)
  none)
  (Value.agg
  #[Value.string
  s,
  Value.int
  IntKind.i64
  i_9]) ∧
  R
  (Ending.returned
  (Value.tuple
  #[Value.agg
  #[Value.int
  IntKind.i64
  i,
  Value.slice
  a
  l
  c,
  Value.slice
  a_9
  l_9
  c_9,
  Value.slice
  a_10
  l_10
  c_10,
  Value.slice
  a_11
  l_11
  c_11,
  Value.int
  IntKind.i64
  i_7,
  Value.int
  IntKind.i64
  i_8,
  Value.bool
  b],
  Value.agg
  #[Value.string
  s,
  Value.int
  IntKind.i64
  i_9]]))
  w1_3))
  (∃ (i : Int),
  ∃ (a : Option Addr),
  ∃ (l : Nat),
  ∃ (c : Nat),
  ∃ (a_6 : Option Addr),
  ∃ (l_6 : Nat),
  ∃ (c_6 : Nat),
  ∃ (a_7 : Option Addr),
  ∃ (l_7 : Nat),
  ∃ (c_7 : Nat),
  ∃ (a_8 : Option Addr),
  ∃ (l_8 : Nat),
  ∃ (c_8 : Nat),
  ∃ (i_5 : Int),
  ∃ (i_6 : Int),
  ∃ (b_6 : Bool),
  Ld Go.Proofs.Try.prog (44 : Nat) w'
  (Addr.mk b (0 : Nat) none)
  (Value.agg
  #[Value.int IntKind.i64 i,
  Value.slice a l c,
  Value.slice a_6 l_6 c_6,
  Value.slice a_7 l_7 c_7,
  Value.slice a_8 l_8 c_8,
  Value.int IntKind.i64 i_5,
  Value.int IntKind.i64 i_6,
  Value.bool b_6]) ∧
  ∃ (i_7 : Int),
  ∃ (i_8 : Int),
  ∃ (s : ByteArray),
  ∃ (s_2 : ByteArray),
  ∃ (a_9 : Option Addr),
  ∃ (l_9 : Nat),
  ∃ (c_9 : Nat),
  ∃ (a_10 : Option Addr),
  ∃ (l_10 : Nat),
  ∃ (c_10 : Nat),
  Ld Go.Proofs.Try.prog
  (49 : Nat) w'
  (Addr.mk b_1
  (0 : Nat) none)
  (Value.agg
  #[Value.int
  IntKind.i64
  i_7,
  Value.int
  IntKind.i64
  i_8,
  Value.string s,
  Value.string
  s_2,
  Value.slice a_9
  l_9 c_9,
  Value.slice a_10
  l_10 c_10]) ∧
  CallV Go.Proofs.Try.prog
  (51 : Nat)
  [Value.agg
  #[Value.int
  IntKind.i64
  i,
  Value.slice a
  l c,
  Value.slice
  a_6 l_6 c_6,
  Value.slice
  a_7 l_7 c_7,
  Value.slice
  a_8 l_8 c_8,
  Value.int
  IntKind.i64
  i_5,
  Value.int
  IntKind.i64
  i_6,
  Value.bool
  b_6],
  Value.agg
  #[Value.int
  IntKind.i64
  i_7,
  Value.int
  IntKind.i64
  i_8,
  Value.string
  s,
  Value.string
  s_2,
  Value.slice
  a_9 l_9 c_9,
  Value.slice
  a_10 l_10
  c_10]]
  w'
  fun (e : Ending)
  (w' : World) ↦
  ∃ (i : Int),
  ∃ (a :
  Option Addr),
  ∃ (l : Nat),
  ∃ (c : Nat),
  ∃ (a_11 :
  Option
  Addr),
  ∃ (l_11 :
  Nat),
  ∃ (c_11
  :
  Nat),
  ∃
  (a_12
  :
  Option
  Addr),
  ∃
  (l_12
  :
  Nat),
  ∃
  (c_12
  :
  Nat),
  ∃
  (a_13
  :
  Option
  Addr),
  ∃
  (l_13
  :
  Nat),
  ∃
  (c_13
  :
  Nat),
  ∃
  (i_9
  :
  Int),
  ∃
  (i_10
  :
  Int),
  ∃
  (b
  :
  Bool),
  e =
  Ending.returned
  (Value.agg
  #[Value.int
  IntKind.i64
  i,
  Value.slice
  a
  l
  c,
  Value.slice
  a_11
  l_11
  c_11,
  Value.slice
  a_12
  l_12
  c_12,
  Value.slice
  a_13
  l_13
  c_13,
  Value.int
  IntKind.i64
  i_9,
  Value.int
  IntKind.i64
  i_10,
  Value.bool
  b]) ∧
  ∃
  (w1
  :
  World),
  St
  Go.Proofs.Try.prog
  (44 :
  Nat)
  w'
  (Addr.mk
  b_2
  (0 :
  Nat)
  none)
  (Value.agg
  #[Value.int
  IntKind.i64
  i,
  Value.slice
  a
  l
  c,
  Value.slice
  a_11
  l_11
  c_11,
  Value.slice
  a_12
  l_12
  c_12,
  Value.slice
  a_13
  l_13
  c_13,
  Value.int
  IntKind.i64
  i_9,
  Value.int
  IntKind.i64
  i_10,
  Value.bool
  b])
  w1 ∧
  ∃
  (w1_3
  :
  World),
  St
  Go.Proofs.Try.prog
  (53 :
  Nat)
  w1
  (Addr.mk
  b_3
  (0 :
  Nat)
  none)
  (Value.agg
  #[Value.string
  (ByteArray.mk
  #[]),
  Value.int
  IntKind.i64
  (0 :
  Int)])
  w1_3 ∧
  ∃
  (i
  :
  Int),
  ∃
  (a
  :
  Option
  Addr),
  ∃
  (l
  :
  Nat),
  ∃
  (c
  :
  Nat),
  ∃
  (a_14
  :
  Option
  Addr),
  ∃
  (l_14
  :
  Nat),
  ∃
  (c_14
  :
  Nat),
  ∃
  (a_15
  :
  Option
  Addr),
  ∃
  (l_15
  :
  Nat),
  ∃
  (c_15
  :
  Nat),
  ∃
  (a_16
  :
  Option
  Addr),
  ∃
  (l_16
  :
  Nat),
  ∃
  (c_16
  :
  Nat),
  ∃
  (i_11
  :
  Int),
  ∃
  (i_12
  :
  Int),
  ∃
  (b
  :
  Bool),
  Ld
  Go.Proofs.Try.prog
  (44 :
  Nat)
  w1_3
  (Addr.mk
  b_2
  (0 :
  Nat)
  none)
  (Value.agg
  #[Value.int
  IntKind.i64
  i,
  Value.slice
  a
  l
  c,
  Value.slice
  a_14
  l_14
  c_14,
  Value.slice
  a_15
  l_15
  c_15,
  Value.slice
  a_16
  l_16
  c_16,
  Value.int
  IntKind.i64
  i_11,
  Value.int
  IntKind.i64
  i_12,
  Value.bool
  b]) ∧
  ∃
  (s
  :
  ByteArray),
  ∃
  (i_13
  :
  Int),
  Ld
  Go.Proofs.Try.prog
  (53 :
  Nat)
  w1_3
  (Addr.mk
  b_3
  (0 :
  Nat)
  none)
  (Value.agg
  #[Value.string
  s,
  Value.int
  IntKind.i64
  i_13]) ∧
  R
  (Ending.returned
  (Value.tuple
  #[Value.agg
  #[Value.int
  IntKind.i64
  i,
  Value.slice
  a
  l
  c,
  Value.slice
  a_14
  l_14
  c_14,
  Value.slice
  a_15
  l_15
  c_15,
  Value.slice
  a_16
  l_16
  c_16,
  Value.int
  IntKind.i64
  i_11,
  Value.int
  IntKind.i64
  i_12,
  Value.bool
  b],
  Value.agg
  #[Value.string
  s,
  Value.int
  IntKind.i64
  i_13]]))
  w1_3))
  fun (J : PUnit → World → Prop) ↦
  ∃ (i : Int),
  Ld Go.Proofs.Try.prog (3 : Nat) w' (Addr.mk b (5 : Nat) none)
  (Value.int IntKind.i64 i) ∧
  br (decide ((0 : Int) < i))
  (∃ (i : Int),
  Ld Go.Proofs.Try.prog (3 : Nat) w' (Addr.mk b (5 : Nat) none)
  (Value.int IntKind.i64 i) ∧
  inR IntKind.i64 (i - (1 : Int)) ∧
  ∃ (w1 : World),
  St Go.Proofs.Try.prog (3 : Nat) w' (Addr.mk b (5 : Nat) none)
  (Value.int IntKind.i64 (i - (1 : Int))) w1 ∧
  ∃ (i : Int),
  Ld Go.Proofs.Try.prog (3 : Nat) w1 (Addr.mk b (5 : Nat) none)
  (Value.int IntKind.i64 i) ∧
  ∃ (w1_3 : World),
  St Go.Proofs.Try.prog (4 : Nat) w1 (Addr.mk b (7 : Nat) none)
  (Value.bool (decide (i = (0 : Int)))) w1_3 ∧
  J () w1_3)
  (J () w'))
  fun (J : PUnit → World → Prop) ↦
  JoinP
  (fun (s : Bool) (w' : World) ↦
  br s
  (∃ (i : Int),
  Ld Go.Proofs.Try.prog (3 : Nat) w' (Addr.mk b (6 : Nat) none)
  (Value.int IntKind.i64 i) ∧
  inR IntKind.i64 (i - (1 : Int)) ∧
  ∃ (w1 : World),
  St Go.Proofs.Try.prog (3 : Nat) w' (Addr.mk b (6 : Nat) none)
  (Value.int IntKind.i64 (i - (1 : Int))) w1 ∧
  ∃ (i : Int),
  Ld Go.Proofs.Try.prog (3 : Nat) w1 (Addr.mk b (6 : Nat) none)
  (Value.int IntKind.i64 i) ∧
  br (decide (i = (0 : Int)))
  (∃ (i : Int),
  ∃ (a : Option Addr),
  ∃ (l : Nat),
  ∃ (c : Nat),
  ∃ (a_6 : Option Addr),
  ∃ (l_6 : Nat),
  ∃ (c_6 : Nat),
  ∃ (a_7 : Option Addr),
  ∃ (l_7 : Nat),
  ∃ (c_7 : Nat),
  ∃ (a_8 : Option Addr),
  ∃ (l_8 : Nat),
  ∃ (c_8 : Nat),
  ∃ (i_5 : Int),
  ∃ (i_6 : Int),
  ∃ (b_5 : Bool),
  Ld Go.Proofs.Try.prog (44 : Nat) w1
  (Addr.mk b (0 : Nat) none)
  (Value.agg
  #[Value.int IntKind.i64 i,
  Value.slice a l c,
  Value.slice a_6 l_6 c_6,
  Value.slice a_7 l_7 c_7,
  Value.slice a_8 l_8 c_8,
  Value.int IntKind.i64 i_5,
  Value.int IntKind.i64 i_6,
  Value.bool b_5]) ∧
  ∃ (w1_3 : World),
  St Go.Proofs.Try.prog (44 : Nat) w1
  (Addr.mk b_2 (0 : Nat) none)
  (Value.agg
  #[Value.int IntKind.i64 i,
  Value.slice a l c,
  Value.slice a_6 l_6 c_6,
  Value.slice a_7 l_7 c_7,
  Value.slice a_8 l_8 c_8,
  Value.int IntKind.i64
  i_5,
  Value.int IntKind.i64
  i_6,
  Value.bool b_5])
  w1_3 ∧
  ∃ (w1 : World),
  St Go.Proofs.Try.prog
  (53 : Nat) w1_3
  (Addr.mk b_3 (0 : Nat)
  none)
  (Value.agg
  #[Value.string
  (ByteArray.mk
  #[]),
  Value.int
  IntKind.i64
  (95 : Int)])
  w1 ∧
  ∃ (i : Int),
  ∃ (a : Option Addr),
  ∃ (l : Nat),
  ∃ (c : Nat),
  ∃ (a_9 :
  Option Addr),
  ∃ (l_9 : Nat),
  ∃ (c_9 : Nat),
  ∃ (a_10 :
  Option
  Addr),
  ∃ (l_10 :
  Nat),
  ∃ (c_10
  :
  Nat),
  ∃
  (a_11
  :
  Option
  Addr),
  ∃
  (l_11
  :
  Nat),
  ∃
  (c_11
  :
  Nat),
  ∃
  (i_7
  :
  Int),
  ∃
  (i_8
  :
  Int),
  ∃
  (b
  :
  Bool),
  Ld
  Go.Proofs.Try.prog
  (44 :
  Nat)
  w1
  (Addr.mk
  b_2
  (0 :
  Nat)
  none)
  (Value.agg
  #[Value.int
  IntKind.i64
  i,
  Value.slice
  a
  l
  c,
  Value.slice
  a_9
  l_9
  c_9,
  Value.slice
  a_10
  l_10
  c_10,
  Value.slice
  a_11
  l_11
  c_11,
  Value.int
  IntKind.i64
  i_7,
  Value.int
  IntKind.i64
  i_8,
  Value.bool
  b]) ∧
  ∃
  (s
  :
  ByteArray),
  ∃
  (i_9
  :
  Int),
  Ld
  Go.Proofs.Try.prog
  (53 :
  Nat)
  w1
  (Addr.mk
  b_3
  (0 :
  Nat)
  none)
  (Value.agg
  #[Value.string
  s,
  Value.int
  IntKind.i64
  i_9]) ∧
  R
  (Ending.returned
  (Value.tuple
  #[Value.agg
  #[Value.int
  IntKind.i64
  i,
  Value.slice
  a
  l
  c,
  Value.slice
  a_9
  l_9
  c_9,
  Value.slice
  a_10
  l_10
  c_10,
  Value.slice
  a_11
  l_11
  c_11,
  Value.int
  IntKind.i64
  i_7,
  Value.int
  IntKind.i64
  i_8,
  Value.bool
  b],
  Value.agg
  #[Value.string
  s,
  Value.int
  IntKind.i64
  i_9]]))
  w1)
  (J () w1))
  (J () w'))
  fun (J : Bool → World → Prop) ↦
  ∃ (i : Int),
  Ld Go.Proofs.Try.prog (3 : Nat) w' (Addr.mk b_1 (0 : Nat) none)
  (Value.int IntKind.i64 i) ∧
  br (decide (i = (1 : Int)))
  (∃ (i : Int),
  Ld Go.Proofs.Try.prog (3 : Nat) w' (Addr.mk b (6 : Nat) none)
  (Value.int IntKind.i64 i) ∧
  J (decide ((0 : Int) < i)) w')
  (∃ (i : Int),
  Ld Go.Proofs.Try.prog (3 : Nat) w' (Addr.mk b_1 (0 : Nat) none)
  (Value.int IntKind.i64 i) ∧
  br (decide (i = (3 : Int)))
  (∃ (i : Int),
  Ld Go.Proofs.Try.prog (3 : Nat) w' (Addr.mk b (6 : Nat) none)
  (Value.int IntKind.i64 i) ∧
  J (decide ((0 : Int) < i)) w')
  (J false w'))))
  fun (J : Bool → World → Prop) ↦
  ∃ (i : Int),
  Ld Go.Proofs.Try.prog (3 : Nat) w' (Addr.mk b_1 (0 : Nat) none) (Value.int IntKind.i64 i) ∧
  br (decide (i = (4 : Int)))
  (∃ (s : ByteArray),
  Ld Go.Proofs.Try.prog (9 : Nat) w' (Addr.mk b_1 (2 : Nat) none) (Value.string s) ∧
  ∃ (s_2 : ByteArray),
  Ld Go.Proofs.Try.prog (9 : Nat) w' (Addr.mk b_1 (3 : Nat) none) (Value.string s_2) ∧
  J (decide (s = s_2)) w')
  (J false w')))))
  fun (J : Bool → World → Prop) ↦
  ∃ (i : Int),
  Ld Go.Proofs.Try.prog (3 : Nat) w1_2 (Addr.mk b_1 (0 : Nat) none) (Value.int IntKind.i64 i) ∧
  br (decide (i < (0 : Int))) (J true w1_2)
  (∃ (i : Int), Ld Go.Proofs.Try.prog (3 : Nat) w1_2 (Addr.mk b_1 (0 : Nat) none) (Value.int IntKind.i64 i) ∧ J (decide ((9 : Int) < i)) w1_2))))
theorem rdo.eq (d_Room : Int) (d_Filesa : Option Addr) (d_Filesn : Nat) (d_Filesc : Nat) (d_Namesa : Option Addr) (d_Namesn : Nat) (d_Namesc : Nat) (d_Firma : Option Addr) (d_Firmn : Nat) (d_Firmc : Nat) (d_Sincea : Option Addr) (d_Sincen : Nat) (d_Sincec : Nat) (d_Armed : Int) (d_Denied : Int) (d_Dead : Bool) (o_Kind : Int) (o_N : Int) (o_Name : ByteArray) (o_To : ByteArray) (o_Ba : Option Addr) (o_Bn : Nat) (o_Bc : Nat) (o_Picksa : Option Addr) (o_Picksn : Nat) (o_Picksc : Nat) (w : World) (R : Ending → World → Prop) : bodyV Go.Proofs.Try.prog rdo.an Go.Proofs.Try.f20 [.agg #[.int .i64 d_Room, .slice d_Filesa d_Filesn d_Filesc, .slice d_Namesa d_Namesn d_Namesc, .slice d_Firma d_Firmn d_Firmc, .slice d_Sincea d_Sincen d_Sincec, .int .i64 d_Armed, .int .i64 d_Denied, .bool d_Dead], .agg #[.int .i64 o_Kind, .int .i64 o_N, .string o_Name, .string o_To, .slice o_Ba o_Bn o_Bc, .slice o_Picksa o_Picksn o_Picksc]] w R = rdo.vc d_Room d_Filesa d_Filesn d_Filesc d_Namesa d_Namesn d_Namesc d_Firma d_Firmn d_Firmc d_Sincea d_Sincen d_Sincec d_Armed d_Denied d_Dead o_Kind o_N o_Name o_To o_Ba o_Bn o_Bc o_Picksa o_Picksn o_Picksc w R := by kernel_rfl
theorem rdo.ok (d_Room : Int) (d_Filesa : Option Addr) (d_Filesn : Nat) (d_Filesc : Nat) (d_Namesa : Option Addr) (d_Namesn : Nat) (d_Namesc : Nat) (d_Firma : Option Addr) (d_Firmn : Nat) (d_Firmc : Nat) (d_Sincea : Option Addr) (d_Sincen : Nat) (d_Sincec : Nat) (d_Armed : Int) (d_Denied : Int) (d_Dead : Bool) (o_Kind : Int) (o_N : Int) (o_Name : ByteArray) (o_To : ByteArray) (o_Ba : Option Addr) (o_Bn : Nat) (o_Bc : Nat) (o_Picksa : Option Addr) (o_Picksn : Nat) (o_Picksc : Nat) (w : World) (R : Ending → World → Prop) (h : rdo.vc d_Room d_Filesa d_Filesn d_Filesc d_Namesa d_Namesn d_Namesc d_Firma d_Firmn d_Firmc d_Sincea d_Sincen d_Sincec d_Armed d_Denied d_Dead o_Kind o_N o_Name o_To o_Ba o_Bn o_Bc o_Picksa o_Picksn o_Picksc w R) : Calls Go.Proofs.Try.prog 20 #[.agg #[.int .i64 d_Room, .slice d_Filesa d_Filesn d_Filesc, .slice d_Namesa d_Namesn d_Namesc, .slice d_Firma d_Firmn d_Firmc, .slice d_Sincea d_Sincen d_Sincec, .int .i64 d_Armed, .int .i64 d_Denied, .bool d_Dead], .agg #[.int .i64 o_Kind, .int .i64 o_N, .string o_Name, .string o_To, .slice o_Ba o_Bn o_Bc, .slice o_Picksa o_Picksn o_Picksc]] w R :=
  calls_of_bodyV noNum (an := rdo.an) (args := [.agg #[.int .i64 d_Room, .slice d_Filesa d_Filesn d_Filesc, .slice d_Namesa d_Namesn d_Namesc, .slice d_Firma d_Firmn d_Firmc, .slice d_Sincea d_Sincen d_Sincec, .int .i64 d_Armed, .int .i64 d_Denied, .bool d_Dead], .agg #[.int .i64 o_Kind, .int .i64 o_N, .string o_Name, .string o_To, .slice o_Ba o_Bn o_Bc, .slice o_Picksa o_Picksn o_Picksc]]) Go.Proofs.Try.func20 (by kernel_rfl) ((rdo.eq d_Room d_Filesa d_Filesn d_Filesc d_Namesa d_Namesn d_Namesc d_Firma d_Firmn d_Firmc d_Sincea d_Sincen d_Sincec d_Armed d_Denied d_Dead o_Kind o_N o_Name o_To o_Ba o_Bn o_Bc o_Picksa o_Picksn o_Picksc w R).mpr h)

/-- incunable/incunableref09.New -/
def rnew.an : An := { wraps := [], loops := [], joins := [], ranges := [] }
def rnew.vc (room : Int) (w : World) (R : Ending → World → Prop) : Prop :=
  ∀ (b : Nat) (w1 : World),
  New w
  (Obj.cells
  #[Value.int IntKind.i64 (0 : Int), Value.slice none (0 : Nat) (0 : Nat), Value.slice none (0 : Nat) (0 : Nat), Value.slice none (0 : Nat) (0 : Nat), Value.slice none (0 : Nat) (0 : Nat),
  Value.int IntKind.i64 (0 : Int), Value.int IntKind.i64 (0 : Int), Value.bool false]
  (44 : Nat))
  b w1 →
  ∃ (w1_1 : World),
  St Go.Proofs.Try.prog (44 : Nat) w1 (Addr.mk b (0 : Nat) none)
  (Value.agg
  #[Value.int IntKind.i64 (min (max room (0 : Int)) (65536 : Int)), Value.slice none (0 : Nat) (0 : Nat), Value.slice none (0 : Nat) (0 : Nat), Value.slice none (0 : Nat) (0 : Nat),
  Value.slice none (0 : Nat) (0 : Nat), Value.int IntKind.i64 (0 : Int), Value.int IntKind.i64 (0 : Int), Value.bool false])
  w1_1 ∧
  ∃ (i : Int),
  ∃ (a : Option Addr),
  ∃ (l : Nat),
  ∃ (c : Nat),
  ∃ (a_1 : Option Addr),
  ∃ (l_1 : Nat),
  ∃ (c_1 : Nat),
  ∃ (a_2 : Option Addr),
  ∃ (l_2 : Nat),
  ∃ (c_2 : Nat),
  ∃ (a_3 : Option Addr),
  ∃ (l_3 : Nat),
  ∃ (c_3 : Nat),
  ∃ (i_1 : Int),
  ∃ (i_2 : Int),
  ∃ (b_1 : Bool),
  Ld Go.Proofs.Try.prog (44 : Nat) w1_1 (Addr.mk b (0 : Nat) none)
  (Value.agg
  #[Value.int IntKind.i64 i, Value.slice a l c, Value.slice a_1 l_1 c_1, Value.slice a_2 l_2 c_2, Value.slice a_3 l_3 c_3, Value.int IntKind.i64 i_1,
  Value.int IntKind.i64 i_2, Value.bool b_1]) ∧
  R
  (Ending.returned
  (Value.agg
  #[Value.int IntKind.i64 i, Value.slice a l c, Value.slice a_1 l_1 c_1, Value.slice a_2 l_2 c_2, Value.slice a_3 l_3 c_3, Value.int IntKind.i64 i_1,
  Value.int IntKind.i64 i_2, Value.bool b_1]))
  w1_1
theorem rnew.eq (room : Int) (w : World) (R : Ending → World → Prop) : bodyV Go.Proofs.Try.prog rnew.an Go.Proofs.Try.f17 [.int .i64 room] w R = rnew.vc room w R := by kernel_rfl
theorem rnew.ok (room : Int) (w : World) (R : Ending → World → Prop) (h : rnew.vc room w R) : Calls Go.Proofs.Try.prog 17 #[.int .i64 room] w R :=
  calls_of_bodyV noNum (an := rnew.an) (args := [.int .i64 room]) Go.Proofs.Try.func17 (by kernel_rfl) ((rnew.eq room w R).mpr h)

/-- (*incunable/vault.Disk).Dead -/
def dead.an : An := { wraps := [], loops := [], joins := [], ranges := [] }
def dead.vc (d : Option Addr) (w : World) (R : Ending → World → Prop) : Prop :=
  onP d fun (a : Addr) ↦ ∃ (b : Bool), Ld Go.Proofs.Try.prog (4 : Nat) w (Addr.add a (7 : Nat)) (Value.bool b) ∧ R (Ending.returned (Value.bool b)) w
theorem dead.eq (d : Option Addr) (w : World) (R : Ending → World → Prop) : bodyV Go.Proofs.Try.prog dead.an Go.Proofs.Try.f56 [.pointer d] w R = dead.vc d w R := by kernel_rfl
theorem dead.ok (d : Option Addr) (w : World) (R : Ending → World → Prop) (h : dead.vc d w R) : Calls Go.Proofs.Try.prog 56 #[.pointer d] w R :=
  calls_of_bodyV noNum (an := dead.an) (args := [.pointer d]) Go.Proofs.Try.func56 (by kernel_rfl) ((dead.eq d w R).mpr h)

/-- incunable/incunableref09.Size -/
def rsize.an : An := { wraps := [], loops := [], joins := [], ranges := [] }
def rsize.vc (d_Room : Int) (d_Filesa : Option Addr) (d_Filesn : Nat) (d_Filesc : Nat) (d_Namesa : Option Addr) (d_Namesn : Nat) (d_Namesc : Nat) (d_Firma : Option Addr) (d_Firmn : Nat) (d_Firmc : Nat) (d_Sincea : Option Addr) (d_Sincen : Nat) (d_Sincec : Nat) (d_Armed : Int) (d_Denied : Int) (d_Dead : Bool) (name : ByteArray) (w : World) (R : Ending → World → Prop) : Prop :=
  ∀ (b : Nat) (w1 : World),
  New w
  (Obj.cells
  #[Value.int IntKind.i64 d_Room, Value.slice d_Filesa d_Filesn d_Filesc, Value.slice d_Namesa d_Namesn d_Namesc, Value.slice d_Firma d_Firmn d_Firmc, Value.slice d_Sincea d_Sincen d_Sincec,
  Value.int IntKind.i64 d_Armed, Value.int IntKind.i64 d_Denied, Value.bool d_Dead]
  (44 : Nat))
  b w1 →
  ∃ (a : Option Addr),
  ∃ (l : Nat),
  ∃ (c : Nat),
  Ld Go.Proofs.Try.prog (41 : Nat) w1 (Addr.mk b (2 : Nat) none) (Value.slice a l c) ∧
  CallV Go.Proofs.Try.prog (50 : Nat) [Value.slice a l c, Value.string name] w1 fun (e : Ending) (w' : World) ↦
  ∃ (i : Int),
  e = Ending.returned (Value.int IntKind.i64 i) ∧
  br (decide (i < (0 : Int))) (R (Ending.returned (Value.int IntKind.i64 (-1 : Int))) w')
  (∃ (a : Option Addr),
  ∃ (l : Nat),
  ∃ (c : Nat),
  Ld Go.Proofs.Try.prog (40 : Nat) w' (Addr.mk b (1 : Nat) none) (Value.slice a l c) ∧
  onP a fun (a : Addr) ↦
  ((0 : Int) ≤ i ∧ i < (↑l : Int)) ∧
  ∃ (a_1 : Option Addr),
  ∃ (l : Nat),
  ∃ (c : Nat),
  Ld Go.Proofs.Try.prog (33 : Nat) w' (Addr.add a (Int.toNat i * (3 : Nat))) (Value.slice a_1 l c) ∧ R (Ending.returned (Value.int IntKind.i64 (↑l : Int))) w')
theorem rsize.eq (d_Room : Int) (d_Filesa : Option Addr) (d_Filesn : Nat) (d_Filesc : Nat) (d_Namesa : Option Addr) (d_Namesn : Nat) (d_Namesc : Nat) (d_Firma : Option Addr) (d_Firmn : Nat) (d_Firmc : Nat) (d_Sincea : Option Addr) (d_Sincen : Nat) (d_Sincec : Nat) (d_Armed : Int) (d_Denied : Int) (d_Dead : Bool) (name : ByteArray) (w : World) (R : Ending → World → Prop) : bodyV Go.Proofs.Try.prog rsize.an Go.Proofs.Try.f68 [.agg #[.int .i64 d_Room, .slice d_Filesa d_Filesn d_Filesc, .slice d_Namesa d_Namesn d_Namesc, .slice d_Firma d_Firmn d_Firmc, .slice d_Sincea d_Sincen d_Sincec, .int .i64 d_Armed, .int .i64 d_Denied, .bool d_Dead], .string name] w R = rsize.vc d_Room d_Filesa d_Filesn d_Filesc d_Namesa d_Namesn d_Namesc d_Firma d_Firmn d_Firmc d_Sincea d_Sincen d_Sincec d_Armed d_Denied d_Dead name w R := by kernel_rfl
theorem rsize.ok (d_Room : Int) (d_Filesa : Option Addr) (d_Filesn : Nat) (d_Filesc : Nat) (d_Namesa : Option Addr) (d_Namesn : Nat) (d_Namesc : Nat) (d_Firma : Option Addr) (d_Firmn : Nat) (d_Firmc : Nat) (d_Sincea : Option Addr) (d_Sincen : Nat) (d_Sincec : Nat) (d_Armed : Int) (d_Denied : Int) (d_Dead : Bool) (name : ByteArray) (w : World) (R : Ending → World → Prop) (h : rsize.vc d_Room d_Filesa d_Filesn d_Filesc d_Namesa d_Namesn d_Namesc d_Firma d_Firmn d_Firmc d_Sincea d_Sincen d_Sincec d_Armed d_Denied d_Dead name w R) : Calls Go.Proofs.Try.prog 68 #[.agg #[.int .i64 d_Room, .slice d_Filesa d_Filesn d_Filesc, .slice d_Namesa d_Namesn d_Namesc, .slice d_Firma d_Firmn d_Firmc, .slice d_Sincea d_Sincen d_Sincec, .int .i64 d_Armed, .int .i64 d_Denied, .bool d_Dead], .string name] w R :=
  calls_of_bodyV noNum (an := rsize.an) (args := [.agg #[.int .i64 d_Room, .slice d_Filesa d_Filesn d_Filesc, .slice d_Namesa d_Namesn d_Namesc, .slice d_Firma d_Firmn d_Firmc, .slice d_Sincea d_Sincen d_Sincec, .int .i64 d_Armed, .int .i64 d_Denied, .bool d_Dead], .string name]) Go.Proofs.Try.func68 (by kernel_rfl) ((rsize.eq d_Room d_Filesa d_Filesn d_Filesc d_Namesa d_Namesn d_Namesc d_Firma d_Firmn d_Firmc d_Sincea d_Sincen d_Sincec d_Armed d_Denied d_Dead name w R).mpr h)

/-- incunable/vault.right -/
def right.an : An := { wraps := [], loops := [], joins := [], ranges := [] }
def right.vc (name : ByteArray) (w : World) (R : Ending → World → Prop) : Prop :=
  br (!decide (name = ByteArray.mk #[])) (R (Ending.returned (Value.bool (decide ((↑(ByteArray.size name) : Int) ≤ (60 : Int))))) w) (R (Ending.returned (Value.bool false)) w)
theorem right.eq (name : ByteArray) (w : World) (R : Ending → World → Prop) : bodyV Go.Proofs.Try.prog right.an Go.Proofs.Try.f42 [.string name] w R = right.vc name w R := by kernel_rfl
theorem right.ok (name : ByteArray) (w : World) (R : Ending → World → Prop) (h : right.vc name w R) : Calls Go.Proofs.Try.prog 42 #[.string name] w R :=
  calls_of_bodyV noNum (an := right.an) (args := [.string name]) Go.Proofs.Try.func42 (by kernel_rfl) ((right.eq name w R).mpr h)

/-- (*incunable/vault.Disk).rename -/
def drenameC.an : An := { wraps := [], loops := [], joins := [], ranges := [] }
def drenameC.vc (d : Option Addr) (x : Option Addr) (y : Option Addr) (w : World) (R : Ending → World → Prop) : Prop :=
  onP d fun (a : Addr) ↦
  ∃ (m : Option Nat),
  Ld Go.Proofs.Try.prog (71 : Nat) w (Addr.add a (2 : Nat)) (Value.map m) ∧
  CallV Go.Proofs.Try.prog (44 : Nat) [Value.map m, Value.pointer x, Value.pointer y] w fun (e : Ending) (w' : World) ↦
  e = Ending.returned (Value.tuple #[]) ∧
  onP d fun (a : Addr) ↦
  ∃ (a_1 : Option Addr),
  ∃ (l : Nat),
  ∃ (c : Nat),
  Ld Go.Proofs.Try.prog (73 : Nat) w' (Addr.add a (4 : Nat)) (Value.slice a_1 l c) ∧
  ∀ (b : Nat) (w1 : World),
  New w' (Obj.cells #[Value.func (Fn.func (44 : Nat)) #[] #[Value.pointer x, Value.pointer y]] (119 : Nat)) b w1 →
  ∃ (a : Option Addr),
  ∃ (n : Nat),
  ∃ (m : Nat),
  ∃ (w1_1 : World),
  App Go.Proofs.Try.prog #[(73 : Nat), (73 : Nat)] (73 : Nat) w1 (Value.slice a_1 l c) (Value.slice (some (Addr.mk b (0 : Nat) none)) (1 : Nat) (1 : Nat))
  (Value.slice a n m) w1_1 ∧
  onP d fun (a_2 : Addr) ↦
  ∃ (w1 : World),
  St Go.Proofs.Try.prog (73 : Nat) w1_1 (Addr.add a_2 (4 : Nat)) (Value.slice a n m) w1 ∧
  CallV Go.Proofs.Try.prog (47 : Nat) [Value.pointer d] w1 fun (e : Ending) (w' : World) ↦
  ∃ (i : Int), e = Ending.returned (Value.int IntKind.i64 i) ∧ R (Ending.returned (Value.int IntKind.i64 i)) w'
theorem drenameC.eq (d : Option Addr) (x : Option Addr) (y : Option Addr) (w : World) (R : Ending → World → Prop) : bodyV Go.Proofs.Try.prog drenameC.an Go.Proofs.Try.f43 [.pointer d, (.func (.func 44) #[] #[.pointer x, .pointer y])] w R = drenameC.vc d x y w R := by kernel_rfl
theorem drenameC.ok (d : Option Addr) (x : Option Addr) (y : Option Addr) (w : World) (R : Ending → World → Prop) (h : drenameC.vc d x y w R) : Calls Go.Proofs.Try.prog 43 #[.pointer d, (.func (.func 44) #[] #[.pointer x, .pointer y])] w R :=
  calls_of_bodyV noNum (an := drenameC.an) (args := [.pointer d, (.func (.func 44) #[] #[.pointer x, .pointer y])]) Go.Proofs.Try.func43 (by kernel_rfl) ((drenameC.eq d x y w R).mpr h)

/-- (*incunable/vault.Disk).rename -/
def drenameR.an : An := { wraps := [], loops := [], joins := [], ranges := [] }
def drenameR.vc (d : Option Addr) (x : Option Addr) (y : Option Addr) (z : Option Addr) (w : World) (R : Ending → World → Prop) : Prop :=
  onP d fun (a : Addr) ↦
  ∃ (m : Option Nat),
  Ld Go.Proofs.Try.prog (71 : Nat) w (Addr.add a (2 : Nat)) (Value.map m) ∧
  CallV Go.Proofs.Try.prog (63 : Nat) [Value.map m, Value.pointer x, Value.pointer y, Value.pointer z] w fun (e : Ending) (w' : World) ↦
  e = Ending.returned (Value.tuple #[]) ∧
  onP d fun (a : Addr) ↦
  ∃ (a_1 : Option Addr),
  ∃ (l : Nat),
  ∃ (c : Nat),
  Ld Go.Proofs.Try.prog (73 : Nat) w' (Addr.add a (4 : Nat)) (Value.slice a_1 l c) ∧
  ∀ (b : Nat) (w1 : World),
  New w' (Obj.cells #[Value.func (Fn.func (63 : Nat)) #[] #[Value.pointer x, Value.pointer y, Value.pointer z]] (119 : Nat)) b w1 →
  ∃ (a : Option Addr),
  ∃ (n : Nat),
  ∃ (m : Nat),
  ∃ (w1_1 : World),
  App Go.Proofs.Try.prog #[(73 : Nat), (73 : Nat)] (73 : Nat) w1 (Value.slice a_1 l c) (Value.slice (some (Addr.mk b (0 : Nat) none)) (1 : Nat) (1 : Nat))
  (Value.slice a n m) w1_1 ∧
  onP d fun (a_2 : Addr) ↦
  ∃ (w1 : World),
  St Go.Proofs.Try.prog (73 : Nat) w1_1 (Addr.add a_2 (4 : Nat)) (Value.slice a n m) w1 ∧
  CallV Go.Proofs.Try.prog (47 : Nat) [Value.pointer d] w1 fun (e : Ending) (w' : World) ↦
  ∃ (i : Int), e = Ending.returned (Value.int IntKind.i64 i) ∧ R (Ending.returned (Value.int IntKind.i64 i)) w'
theorem drenameR.eq (d : Option Addr) (x : Option Addr) (y : Option Addr) (z : Option Addr) (w : World) (R : Ending → World → Prop) : bodyV Go.Proofs.Try.prog drenameR.an Go.Proofs.Try.f43 [.pointer d, (.func (.func 63) #[] #[.pointer x, .pointer y, .pointer z])] w R = drenameR.vc d x y z w R := by kernel_rfl
theorem drenameR.ok (d : Option Addr) (x : Option Addr) (y : Option Addr) (z : Option Addr) (w : World) (R : Ending → World → Prop) (h : drenameR.vc d x y z w R) : Calls Go.Proofs.Try.prog 43 #[.pointer d, (.func (.func 63) #[] #[.pointer x, .pointer y, .pointer z])] w R :=
  calls_of_bodyV noNum (an := drenameR.an) (args := [.pointer d, (.func (.func 63) #[] #[.pointer x, .pointer y, .pointer z])]) Go.Proofs.Try.func43 (by kernel_rfl) ((drenameR.eq d x y z w R).mpr h)

/-- (*incunable/vault.Disk).rename -/
def drenameM.an : An := { wraps := [], loops := [], joins := [], ranges := [] }
def drenameM.vc (d : Option Addr) (x : Option Addr) (w : World) (R : Ending → World → Prop) : Prop :=
  onP d fun (a : Addr) ↦
  ∃ (m : Option Nat),
  Ld Go.Proofs.Try.prog (71 : Nat) w (Addr.add a (2 : Nat)) (Value.map m) ∧
  CallV Go.Proofs.Try.prog (54 : Nat) [Value.map m, Value.pointer x] w fun (e : Ending) (w' : World) ↦
  e = Ending.returned (Value.tuple #[]) ∧
  onP d fun (a : Addr) ↦
  ∃ (a_1 : Option Addr),
  ∃ (l : Nat),
  ∃ (c : Nat),
  Ld Go.Proofs.Try.prog (73 : Nat) w' (Addr.add a (4 : Nat)) (Value.slice a_1 l c) ∧
  ∀ (b : Nat) (w1 : World),
  New w' (Obj.cells #[Value.func (Fn.func (54 : Nat)) #[] #[Value.pointer x]] (119 : Nat)) b w1 →
  ∃ (a : Option Addr),
  ∃ (n : Nat),
  ∃ (m : Nat),
  ∃ (w1_1 : World),
  App Go.Proofs.Try.prog #[(73 : Nat), (73 : Nat)] (73 : Nat) w1 (Value.slice a_1 l c) (Value.slice (some (Addr.mk b (0 : Nat) none)) (1 : Nat) (1 : Nat))
  (Value.slice a n m) w1_1 ∧
  onP d fun (a_2 : Addr) ↦
  ∃ (w1 : World),
  St Go.Proofs.Try.prog (73 : Nat) w1_1 (Addr.add a_2 (4 : Nat)) (Value.slice a n m) w1 ∧
  CallV Go.Proofs.Try.prog (47 : Nat) [Value.pointer d] w1 fun (e : Ending) (w' : World) ↦
  ∃ (i : Int), e = Ending.returned (Value.int IntKind.i64 i) ∧ R (Ending.returned (Value.int IntKind.i64 i)) w'
theorem drenameM.eq (d : Option Addr) (x : Option Addr) (w : World) (R : Ending → World → Prop) : bodyV Go.Proofs.Try.prog drenameM.an Go.Proofs.Try.f43 [.pointer d, (.func (.func 54) #[] #[.pointer x])] w R = drenameM.vc d x w R := by kernel_rfl
theorem drenameM.ok (d : Option Addr) (x : Option Addr) (w : World) (R : Ending → World → Prop) (h : drenameM.vc d x w R) : Calls Go.Proofs.Try.prog 43 #[.pointer d, (.func (.func 54) #[] #[.pointer x])] w R :=
  calls_of_bodyV noNum (an := drenameM.an) (args := [.pointer d, (.func (.func 54) #[] #[.pointer x])]) Go.Proofs.Try.func43 (by kernel_rfl) ((drenameM.eq d x w R).mpr h)

/-- (*incunable/vault.Disk).Create$1 -/
def createC.an : An := { wraps := [], loops := [], joins := [], ranges := [] }
def createC.vc (names : Option Nat) (free0 : Option Addr) (free1 : Option Addr) (w : World) (R : Ending → World → Prop) : Prop :=
  ∃ (s : ByteArray),
  (onP free1 fun (a : Addr) ↦ Ld Go.Proofs.Try.prog (9 : Nat) w a (Value.string s)) ∧
  ∃ (i : Int),
  (onP free0 fun (a : Addr) ↦ Ld Go.Proofs.Try.prog (3 : Nat) w a (Value.int IntKind.i64 i)) ∧
  ∃ (w1 : World), MUp Go.Proofs.Try.prog (71 : Nat) w (Value.map names) (Value.string s) (Value.int IntKind.i64 i) w1 ∧ R (Ending.returned (Value.tuple #[])) w1
theorem createC.eq (names : Option Nat) (free0 : Option Addr) (free1 : Option Addr) (w : World) (R : Ending → World → Prop) : bodyV Go.Proofs.Try.prog createC.an Go.Proofs.Try.f44 [.map names, (.pointer free0), (.pointer free1)] w R = createC.vc names free0 free1 w R := by kernel_rfl
theorem createC.ok (names : Option Nat) (free0 : Option Addr) (free1 : Option Addr) (w : World) (R : Ending → World → Prop) (h : createC.vc names free0 free1 w R) : Calls Go.Proofs.Try.prog 44 #[.map names, (.pointer free0), (.pointer free1)] w R :=
  calls_of_bodyV noNum (an := createC.an) (args := [.map names, (.pointer free0), (.pointer free1)]) Go.Proofs.Try.func44 (by kernel_rfl) ((createC.eq names free0 free1 w R).mpr h)

/-- (*incunable/vault.Disk).find -/
def find.an : An := { wraps := [], loops := [], joins := [], ranges := [] }
def find.vc (d : Option Addr) (name : ByteArray) (w : World) (R : Ending → World → Prop) : Prop :=
  onP d fun (a : Addr) ↦
  ∃ (m : Option Nat),
  Ld Go.Proofs.Try.prog (71 : Nat) w (Addr.add a (2 : Nat)) (Value.map m) ∧
  ∃ (i : Int),
  ∃ (b : Bool),
  Lk Go.Proofs.Try.prog (71 : Nat) true w (Value.map m) (Value.string name) (Value.tuple #[Value.int IntKind.i64 i, Value.bool b]) ∧
  br (!b) (R (Ending.returned (Value.pointer none)) w)
  (onP d fun (a : Addr) ↦
  ∃ (a_1 : Option Addr),
  ∃ (l : Nat),
  ∃ (c : Nat),
  Ld Go.Proofs.Try.prog (72 : Nat) w (Addr.add a (1 : Nat)) (Value.slice a_1 l c) ∧
  onP a_1 fun (a : Addr) ↦
  ((0 : Int) ≤ i ∧ i < (↑l : Int)) ∧
  ∃ (p : Option Addr), Ld Go.Proofs.Try.prog (93 : Nat) w (Addr.add a (Int.toNat i * (1 : Nat))) (Value.pointer p) ∧ R (Ending.returned (Value.pointer p)) w)
theorem find.eq (d : Option Addr) (name : ByteArray) (w : World) (R : Ending → World → Prop) : bodyV Go.Proofs.Try.prog find.an Go.Proofs.Try.f45 [.pointer d, .string name] w R = find.vc d name w R := by kernel_rfl
theorem find.ok (d : Option Addr) (name : ByteArray) (w : World) (R : Ending → World → Prop) (h : find.vc d name w R) : Calls Go.Proofs.Try.prog 45 #[.pointer d, .string name] w R :=
  calls_of_bodyV noNum (an := find.an) (args := [.pointer d, .string name]) Go.Proofs.Try.func45 (by kernel_rfl) ((find.eq d name w R).mpr h)

/-- (*incunable/vault.Disk).denies -/
def denies.an : An := { wraps := [], loops := [], joins := [], ranges := [] }
def denies.vc (d : Option Addr) (w : World) (R : Ending → World → Prop) : Prop :=
  onP d fun (a : Addr) ↦
  ∃ (i : Int),
  Ld Go.Proofs.Try.prog (3 : Nat) w (Addr.add a (6 : Nat)) (Value.int IntKind.i64 i) ∧
  br (decide (i = (0 : Int))) (R (Ending.returned (Value.bool false)) w)
  (onP d fun (a : Addr) ↦
  ∃ (i : Int),
  Ld Go.Proofs.Try.prog (3 : Nat) w (Addr.add a (6 : Nat)) (Value.int IntKind.i64 i) ∧
  inR IntKind.i64 (i - (1 : Int)) ∧
  onP d fun (a : Addr) ↦
  ∃ (w1 : World),
  St Go.Proofs.Try.prog (3 : Nat) w (Addr.add a (6 : Nat)) (Value.int IntKind.i64 (i - (1 : Int))) w1 ∧
  onP d fun (a : Addr) ↦
  ∃ (i : Int), Ld Go.Proofs.Try.prog (3 : Nat) w1 (Addr.add a (6 : Nat)) (Value.int IntKind.i64 i) ∧ R (Ending.returned (Value.bool (decide (i = (0 : Int))))) w1)
theorem denies.eq (d : Option Addr) (w : World) (R : Ending → World → Prop) : bodyV Go.Proofs.Try.prog denies.an Go.Proofs.Try.f46 [.pointer d] w R = denies.vc d w R := by kernel_rfl
theorem denies.ok (d : Option Addr) (w : World) (R : Ending → World → Prop) (h : denies.vc d w R) : Calls Go.Proofs.Try.prog 46 #[.pointer d] w R :=
  calls_of_bodyV noNum (an := denies.an) (args := [.pointer d]) Go.Proofs.Try.func46 (by kernel_rfl) ((denies.eq d w R).mpr h)

/-- (*incunable/vault.Disk).done -/
def done.an : An := { wraps := [], loops := [], joins := [], ranges := [] }
def done.vc (d : Option Addr) (w : World) (R : Ending → World → Prop) : Prop :=
  CallV Go.Proofs.Try.prog (61 : Nat) [Value.pointer d] w fun (e : Ending) (w' : World) ↦
  ∃ (b : Bool), e = Ending.returned (Value.bool b) ∧ br b (R (Ending.returned (Value.int IntKind.i64 (93 : Int))) w') (R (Ending.returned (Value.int IntKind.i64 (0 : Int))) w')
theorem done.eq (d : Option Addr) (w : World) (R : Ending → World → Prop) : bodyV Go.Proofs.Try.prog done.an Go.Proofs.Try.f47 [.pointer d] w R = done.vc d w R := by kernel_rfl
theorem done.ok (d : Option Addr) (w : World) (R : Ending → World → Prop) (h : done.vc d w R) : Calls Go.Proofs.Try.prog 47 #[.pointer d] w R :=
  calls_of_bodyV noNum (an := done.an) (args := [.pointer d]) Go.Proofs.Try.func47 (by kernel_rfl) ((done.eq d w R).mpr h)

/-- (*incunable/vault.Disk).dies -/
def dies.an : An := { wraps := [], loops := [], joins := [], ranges := [] }
def dies.vc (d : Option Addr) (w : World) (R : Ending → World → Prop) : Prop :=
  onP d fun (a : Addr) ↦
  ∃ (i : Int),
  Ld Go.Proofs.Try.prog (3 : Nat) w (Addr.add a (5 : Nat)) (Value.int IntKind.i64 i) ∧
  br (decide ((0 : Int) < i))
  (onP d fun (a : Addr) ↦
  ∃ (i : Int),
  Ld Go.Proofs.Try.prog (3 : Nat) w (Addr.add a (5 : Nat)) (Value.int IntKind.i64 i) ∧
  inR IntKind.i64 (i - (1 : Int)) ∧
  onP d fun (a : Addr) ↦
  ∃ (w1 : World),
  St Go.Proofs.Try.prog (3 : Nat) w (Addr.add a (5 : Nat)) (Value.int IntKind.i64 (i - (1 : Int))) w1 ∧
  onP d fun (a : Addr) ↦
  ∃ (i : Int),
  Ld Go.Proofs.Try.prog (3 : Nat) w1 (Addr.add a (5 : Nat)) (Value.int IntKind.i64 i) ∧
  onP d fun (a : Addr) ↦
  ∃ (w1_1 : World),
  St Go.Proofs.Try.prog (4 : Nat) w1 (Addr.add a (7 : Nat)) (Value.bool (decide (i = (0 : Int)))) w1_1 ∧
  onP d fun (a : Addr) ↦ ∃ (b : Bool), Ld Go.Proofs.Try.prog (4 : Nat) w1_1 (Addr.add a (7 : Nat)) (Value.bool b) ∧ R (Ending.returned (Value.bool b)) w1_1)
  (onP d fun (a : Addr) ↦ ∃ (b : Bool), Ld Go.Proofs.Try.prog (4 : Nat) w (Addr.add a (7 : Nat)) (Value.bool b) ∧ R (Ending.returned (Value.bool b)) w)
theorem dies.eq (d : Option Addr) (w : World) (R : Ending → World → Prop) : bodyV Go.Proofs.Try.prog dies.an Go.Proofs.Try.f61 [.pointer d] w R = dies.vc d w R := by kernel_rfl
theorem dies.ok (d : Option Addr) (w : World) (R : Ending → World → Prop) (h : dies.vc d w R) : Calls Go.Proofs.Try.prog 61 #[.pointer d] w R :=
  calls_of_bodyV noNum (an := dies.an) (args := [.pointer d]) Go.Proofs.Try.func61 (by kernel_rfl) ((dies.eq d w R).mpr h)

/-- slices.Clone[[]incunable/vault.sector,incunable/vault.sector] -/
def cloneS.an : An := { wraps := [], loops := [], joins := [], ranges := [] }
def cloneS.vc (sa : Option Addr) (sn : Nat) (sc : Nat) (w : World) (R : Ending → World → Prop) : Prop :=
  ∃ (b : Bool),
  Eqv Go.Proofs.Try.prog BinOp.eql (95 : Nat) (Operand.tmp (3 : Nat)) (Operand.const (Value.slice none (0 : Nat) (0 : Nat))) w (Value.slice sa sn sc) (Value.slice none (0 : Nat) (0 : Nat)) b ∧
  br b (R (Ending.returned (Value.slice none (0 : Nat) (0 : Nat))) w)
  (∃ (e : TypeId),
  ∃ (l : List Value),
  BuildS Go.Proofs.Try.prog (95 : Nat) (0 : Nat) [] e l ∧
  ∀ (b : Nat) (w1 : World),
  New w (Obj.cells (List.toArray l) e) b w1 →
  ∃ (a : Option Addr),
  ∃ (n : Nat),
  ∃ (m : Nat),
  ∃ (w1_1 : World),
  App Go.Proofs.Try.prog #[(95 : Nat), (95 : Nat)] (95 : Nat) w1 (Value.slice (some (Addr.mk b (0 : Nat) none)) (0 : Nat) (0 : Nat)) (Value.slice sa sn sc) (Value.slice a n m)
  w1_1 ∧
  R (Ending.returned (Value.slice a n m)) w1_1)
theorem cloneS.eq (sa : Option Addr) (sn : Nat) (sc : Nat) (w : World) (R : Ending → World → Prop) : bodyV Go.Proofs.Try.prog cloneS.an Go.Proofs.Try.f62 [.slice sa sn sc] w R = cloneS.vc sa sn sc w R := by kernel_rfl
theorem cloneS.ok (sa : Option Addr) (sn : Nat) (sc : Nat) (w : World) (R : Ending → World → Prop) (h : cloneS.vc sa sn sc w R) : Calls Go.Proofs.Try.prog 62 #[.slice sa sn sc] w R :=
  calls_of_bodyV noNum (an := cloneS.an) (args := [.slice sa sn sc]) Go.Proofs.Try.func62 (by kernel_rfl) ((cloneS.eq sa sn sc w R).mpr h)

/-- (*incunable/vault.Disk).Crash$1 -/
def crashC.an : An := { wraps := [], loops := [], joins := [], ranges := [] }
def crashC.vc (free0 : Option Addr) (w : World) (R : Ending → World → Prop) : Prop :=
  ∃ (a : Option Addr),
  ∃ (l : Nat),
  ∃ (c : Nat),
  (onP free0 fun (a_1 : Addr) ↦ Ld Go.Proofs.Try.prog (47 : Nat) w a_1 (Value.slice a l c)) ∧
  br (decide ((↑l : Int) = (0 : Int))) (R (Ending.returned (Value.int IntKind.i64 (0 : Int))) w)
  (∃ (a : Option Addr),
  ∃ (l : Nat),
  ∃ (c : Nat),
  (onP free0 fun (a_1 : Addr) ↦ Ld Go.Proofs.Try.prog (47 : Nat) w a_1 (Value.slice a l c)) ∧
  onP a fun (a : Addr) ↦
  ((0 : Int) ≤ (0 : Int) ∧ (0 : Int) < (↑l : Int)) ∧
  ∃ (i : Int),
  Ld Go.Proofs.Try.prog (3 : Nat) w a (Value.int IntKind.i64 i) ∧
  ∃ (a : Option Addr),
  ∃ (l : Nat),
  ∃ (c : Nat),
  (onP free0 fun (a_1 : Addr) ↦ Ld Go.Proofs.Try.prog (47 : Nat) w a_1 (Value.slice a l c)) ∧
  ((0 : Int) ≤ (1 : Int) ∧ (1 : Int) ≤ (↑l : Int)) ∧
  onP free0 fun (a_1 : Addr) ↦
  ∃ (w1 : World),
  St Go.Proofs.Try.prog (47 : Nat) w a_1 (Value.slice (slA a c (Int.toNat (1 : Int)) (1 : Nat)) (l - Int.toNat (1 : Int)) (c - Int.toNat (1 : Int))) w1 ∧
  R (Ending.returned (Value.int IntKind.i64 i)) w1)
theorem crashC.eq (free0 : Option Addr) (w : World) (R : Ending → World → Prop) : bodyV Go.Proofs.Try.prog crashC.an Go.Proofs.Try.f57 [(.pointer free0)] w R = crashC.vc free0 w R := by kernel_rfl
theorem crashC.ok (free0 : Option Addr) (w : World) (R : Ending → World → Prop) (h : crashC.vc free0 w R) : Calls Go.Proofs.Try.prog 57 #[(.pointer free0)] w R :=
  calls_of_bodyV noNum (an := crashC.an) (args := [(.pointer free0)]) Go.Proofs.Try.func57 (by kernel_rfl) ((crashC.eq free0 w R).mpr h)

/-- (*incunable/vault.file).found -/
def found.an : An := { wraps := [], loops := [(3, [(5, .inr 3), (21, .inl .i64)]), (7, [(5, .inr 3)])], joins := [], ranges := [] }
def found.vc (f : Option Addr) (next : Value) (w : World) (R : Ending → World → Prop) : Prop :=
  onP f fun (a : Addr) ↦
  ∃ (a_1 : Option Addr),
  ∃ (l : Nat),
  ∃ (c : Nat),
  Ld Go.Proofs.Try.prog (95 : Nat) w (Addr.add a (1 : Nat)) (Value.slice a_1 l c) ∧
  CallV Go.Proofs.Try.prog (62 : Nat) [Value.slice a_1 l c] w fun (e : Ending) (w' : World) ↦
  ∃ (a : Option Addr),
  ∃ (l : Nat),
  ∃ (c : Nat),
  e = Ending.returned (Value.slice a l c) ∧
  onP f fun (a_2 : Addr) ↦
  ∃ (m : Option Nat),
  Ld Go.Proofs.Try.prog (94 : Nat) w' (Addr.add a_2 (2 : Nat)) (Value.map m) ∧
  CallV Go.Proofs.Try.prog (78 : Nat) [Value.map m] w' fun (e : Ending) (w' : World) ↦
  ∃ (v : Value),
  e = Ending.returned v ∧
  CallV Go.Proofs.Try.prog (77 : Nat) [v] w' fun (e : Ending) (w' : World) ↦
  ∃ (a_3 : Option Addr),
  ∃ (l_1 : Nat),
  ∃ (c_1 : Nat),
  e = Ending.returned (Value.slice a_3 l_1 c_1) ∧
  LoopP
  (fun (s : (Option Addr × Nat × Nat) × Int) (w' : World) (next_1 : (Option Addr × Nat × Nat) × Int → World → Prop) ↦
  br (decide (Prod.snd s < (↑l_1 : Int)))
  (onP a_3 fun (a : Addr) ↦
  ((0 : Int) ≤ Prod.snd s ∧ Prod.snd s < (↑l_1 : Int)) ∧
  ∃ (i : Int),
  Ld Go.Proofs.Try.prog (3 : Nat) w' (Addr.add a (Int.toNat (Prod.snd s) * (1 : Nat))) (Value.int IntKind.i64 i) ∧
  CallX Go.Proofs.Try.prog next [] w' fun (e : Ending) (w' : World) ↦
  ∃ (i_1 : Int),
  e = Ending.returned (Value.int IntKind.i64 i_1) ∧
  br (decide (min (max i_1 (0 : Int)) (512 : Int) = (0 : Int)))
  (inR IntKind.i64 (Prod.snd s + (1 : Int)) ∧
  next_1 ((Prod.fst (Prod.fst s), Prod.fst (Prod.snd (Prod.fst s)), Prod.snd (Prod.snd (Prod.fst s))), Prod.snd s + (1 : Int)) w')
  (LoopP
  (fun (s_1 : Option Addr × Nat × Nat) (w' : World) (next : Option Addr × Nat × Nat → World → Prop) ↦
  br (decide ((↑(Prod.fst (Prod.snd s_1)) : Int) ≤ i))
  (∃ (e : TypeId),
  ∃ (l : List Value),
  BuildS Go.Proofs.Try.prog (95 : Nat) (1 : Nat) [((0 : Nat), Value.agg (List.toArray (bigL Go.Proofs.Try.prog (102 : Nat) [])))] e
  l ∧
  ∀ (b : Nat) (w1 : World),
  New w' (Obj.cells (List.toArray l) e) b w1 →
  ∃ (a : Option Addr),
  ∃ (n : Nat),
  ∃ (m : Nat),
  ∃ (w1_1 : World),
  App Go.Proofs.Try.prog #[(95 : Nat), (95 : Nat)] (95 : Nat) w1
  (Value.slice (Prod.fst s_1) (Prod.fst (Prod.snd s_1)) (Prod.snd (Prod.snd s_1)))
  (Value.slice (some (Addr.mk b (0 : Nat) none)) (1 : Nat) (1 : Nat)) (Value.slice a n m) w1_1 ∧
  next (a, n, m) w1_1)
  (onP (Prod.fst s_1) fun (a : Addr) ↦
  ((0 : Int) ≤ i ∧ i < (↑(Prod.fst (Prod.snd s_1)) : Int)) ∧
  ((0 : Int) ≤ min (max i_1 (0 : Int)) (512 : Int) ∧ min (max i_1 (0 : Int)) (512 : Int) ≤ (↑(512 : Nat) : Int)) ∧
  onP f fun (a_4 : Addr) ↦
  ∃ (a_5 : Option Addr),
  ∃ (l : Nat),
  ∃ (c : Nat),
  Ld Go.Proofs.Try.prog (95 : Nat) (World.drew w') a_4 (Value.slice a_5 l c) ∧
  onP a_5 fun (a_6 : Addr) ↦
  ((0 : Int) ≤ i ∧ i < (↑l : Int)) ∧
  ∃ (n : Int),
  ∃ (w1 : World),
  Cpy Go.Proofs.Try.prog #[(46 : Nat), (46 : Nat)] (3 : Nat) (World.drew w')
  (Value.slice (some (Addr.add a (Int.toNat i * (512 : Nat))))
  (Int.toNat (min (max i_1 (0 : Int)) (512 : Int))) (512 : Nat))
  (Value.slice (some (Addr.add a_6 (Int.toNat i * (512 : Nat)))) (512 : Nat) (512 : Nat))
  (Value.int IntKind.i64 n) w1 ∧
  inR IntKind.i64 (Prod.snd s + (1 : Int)) ∧
  next_1 ((Prod.fst s_1, Prod.fst (Prod.snd s_1), Prod.snd (Prod.snd s_1)), Prod.snd s + (1 : Int)) w1))
  (Prod.fst (Prod.fst s), Prod.fst (Prod.snd (Prod.fst s)), Prod.snd (Prod.snd (Prod.fst s))) w'))
  (CallV Go.Proofs.Try.prog (62 : Nat) [Value.slice (Prod.fst (Prod.fst s)) (Prod.fst (Prod.snd (Prod.fst s))) (Prod.snd (Prod.snd (Prod.fst s)))] w'
  fun (e : Ending) (w' : World) ↦
  ∃ (a : Option Addr),
  ∃ (l : Nat),
  ∃ (c : Nat),
  e = Ending.returned (Value.slice a l c) ∧
  ∀ (b : Nat) (w1 : World),
  New w' (Obj.map #[] (0 : Nat)) b w1 →
  ∀ (b_1 : Nat) (w1_1 : World),
  New w1
  (Obj.cells
  #[Value.slice a l c, Value.slice (Prod.fst (Prod.fst s)) (Prod.fst (Prod.snd (Prod.fst s))) (Prod.snd (Prod.snd (Prod.fst s))),
  Value.map (some b)]
  (97 : Nat))
  b_1 w1_1 →
  R (Ending.returned (Value.pointer (some (Addr.mk b_1 (0 : Nat) none)))) w1_1))
  ((a, l, c), (0 : Int)) w'
theorem found.eq (f : Option Addr) (next : Value) (w : World) (R : Ending → World → Prop) : bodyV Go.Proofs.Try.prog found.an Go.Proofs.Try.f58 [.pointer f, next] w R = found.vc f next w R := by kernel_rfl
theorem found.ok (f : Option Addr) (next : Value) (w : World) (R : Ending → World → Prop) (h : found.vc f next w R) : Calls Go.Proofs.Try.prog 58 #[.pointer f, next] w R :=
  calls_of_bodyV noNum (an := found.an) (args := [.pointer f, next]) Go.Proofs.Try.func58 (by kernel_rfl) ((found.eq f next w R).mpr h)

/-- (*incunable/vault.Disk).Rename$1 -/
def renameC.an : An := { wraps := [], loops := [], joins := [], ranges := [] }
def renameC.vc (names : Option Nat) (free0 : Option Addr) (free1 : Option Addr) (free2 : Option Addr) (w : World) (R : Ending → World → Prop) : Prop :=
  ∃ (s : ByteArray),
  (onP free0 fun (a : Addr) ↦ Ld Go.Proofs.Try.prog (9 : Nat) w a (Value.string s)) ∧
  ∃ (w1 : World),
  Del Go.Proofs.Try.prog #[(71 : Nat), (9 : Nat)] (0 : Nat) w (Value.map names) (Value.string s) w1 ∧
  ∃ (s : ByteArray),
  (onP free2 fun (a : Addr) ↦ Ld Go.Proofs.Try.prog (9 : Nat) w1 a (Value.string s)) ∧
  ∃ (i : Int),
  (onP free1 fun (a : Addr) ↦ Ld Go.Proofs.Try.prog (3 : Nat) w1 a (Value.int IntKind.i64 i)) ∧
  ∃ (w1_1 : World), MUp Go.Proofs.Try.prog (71 : Nat) w1 (Value.map names) (Value.string s) (Value.int IntKind.i64 i) w1_1 ∧ R (Ending.returned (Value.tuple #[])) w1_1
theorem renameC.eq (names : Option Nat) (free0 : Option Addr) (free1 : Option Addr) (free2 : Option Addr) (w : World) (R : Ending → World → Prop) : bodyV Go.Proofs.Try.prog renameC.an Go.Proofs.Try.f63 [.map names, (.pointer free0), (.pointer free1), (.pointer free2)] w R = renameC.vc names free0 free1 free2 w R := by kernel_rfl
theorem renameC.ok (names : Option Nat) (free0 : Option Addr) (free1 : Option Addr) (free2 : Option Addr) (w : World) (R : Ending → World → Prop) (h : renameC.vc names free0 free1 free2 w R) : Calls Go.Proofs.Try.prog 63 #[.map names, (.pointer free0), (.pointer free1), (.pointer free2)] w R :=
  calls_of_bodyV noNum (an := renameC.an) (args := [.map names, (.pointer free0), (.pointer free1), (.pointer free2)]) Go.Proofs.Try.func63 (by kernel_rfl) ((renameC.eq names free0 free1 free2 w R).mpr h)

/-- (*incunable/vault.Disk).Remove$1 -/
def removeC.an : An := { wraps := [], loops := [], joins := [], ranges := [] }
def removeC.vc (names : Option Nat) (free0 : Option Addr) (w : World) (R : Ending → World → Prop) : Prop :=
  ∃ (s : ByteArray),
  (onP free0 fun (a : Addr) ↦ Ld Go.Proofs.Try.prog (9 : Nat) w a (Value.string s)) ∧
  ∃ (w1 : World), Del Go.Proofs.Try.prog #[(71 : Nat), (9 : Nat)] (0 : Nat) w (Value.map names) (Value.string s) w1 ∧ R (Ending.returned (Value.tuple #[])) w1
theorem removeC.eq (names : Option Nat) (free0 : Option Addr) (w : World) (R : Ending → World → Prop) : bodyV Go.Proofs.Try.prog removeC.an Go.Proofs.Try.f54 [.map names, (.pointer free0)] w R = removeC.vc names free0 w R := by kernel_rfl
theorem removeC.ok (names : Option Nat) (free0 : Option Addr) (w : World) (R : Ending → World → Prop) (h : removeC.vc names free0 w R) : Calls Go.Proofs.Try.prog 54 #[.map names, (.pointer free0)] w R :=
  calls_of_bodyV noNum (an := removeC.an) (args := [.map names, (.pointer free0)]) Go.Proofs.Try.func54 (by kernel_rfl) ((removeC.eq names free0 w R).mpr h)

/-- incunable/incunableref09.Told -/
def rtold.an : An := { wraps := [], loops := [(4, [(4, .inr 3), (5, .inr 3), (6, .inl .i64)])], joins := [], ranges := [] }
def rtold.vc (d_Room : Int) (d_Filesa : Option Addr) (d_Filesn : Nat) (d_Filesc : Nat) (d_Namesa : Option Addr) (d_Namesn : Nat) (d_Namesc : Nat) (d_Firma : Option Addr) (d_Firmn : Nat) (d_Firmc : Nat) (d_Sincea : Option Addr) (d_Sincen : Nat) (d_Sincec : Nat) (d_Armed : Int) (d_Denied : Int) (d_Dead : Bool) (w : World) (R : Ending → World → Prop) : Prop :=
  ∀ (b : Nat) (w1 : World),
  New w
  (Obj.cells
  #[Value.int IntKind.i64 d_Room, Value.slice d_Filesa d_Filesn d_Filesc, Value.slice d_Namesa d_Namesn d_Namesc, Value.slice d_Firma d_Firmn d_Firmc, Value.slice d_Sincea d_Sincen d_Sincec,
  Value.int IntKind.i64 d_Armed, Value.int IntKind.i64 d_Denied, Value.bool d_Dead]
  (44 : Nat))
  b w1 →
  LoopP
  (fun (s : (Option Addr × Nat × Nat) × (Option Addr × Nat × Nat) × Int) (w' : World) (next : (Option Addr × Nat × Nat) × (Option Addr × Nat × Nat) × Int → World → Prop) ↦
  ∃ (a : Option Addr),
  ∃ (l : Nat),
  ∃ (c : Nat),
  Ld Go.Proofs.Try.prog (41 : Nat) w' (Addr.mk b (2 : Nat) none) (Value.slice a l c) ∧
  br (decide (Prod.snd (Prod.snd s) < (↑l : Int)))
  (∃ (a : Option Addr),
  ∃ (l : Nat),
  ∃ (c : Nat),
  Ld Go.Proofs.Try.prog (41 : Nat) w' (Addr.mk b (2 : Nat) none) (Value.slice a l c) ∧
  onP a fun (a : Addr) ↦
  ((0 : Int) ≤ Prod.snd (Prod.snd s) ∧ Prod.snd (Prod.snd s) < (↑l : Int)) ∧
  ∃ (s_1 : ByteArray),
  Ld Go.Proofs.Try.prog (9 : Nat) w' (Addr.add a (Int.toNat (Prod.snd (Prod.snd s)) * (2 : Nat))) (Value.string s_1) ∧
  ∀ (b_1 : Nat) (w1 : World),
  New w' (Obj.cells #[Value.string s_1] (9 : Nat)) b_1 w1 →
  ∃ (a : Option Addr),
  ∃ (n : Nat),
  ∃ (m : Nat),
  ∃ (w1_1 : World),
  App Go.Proofs.Try.prog #[(33 : Nat), (33 : Nat)] (33 : Nat) w1
  (Value.slice (Prod.fst (Prod.fst s)) (Prod.fst (Prod.snd (Prod.fst s))) (Prod.snd (Prod.snd (Prod.fst s))))
  (Value.slice (some (Addr.mk b_1 (0 : Nat) none)) (1 : Nat) (1 : Nat)) (Value.slice a n m) w1_1 ∧
  ∃ (a_1 : Option Addr),
  ∃ (l : Nat),
  ∃ (c : Nat),
  Ld Go.Proofs.Try.prog (40 : Nat) (World.drew w1_1) (Addr.mk b (1 : Nat) none) (Value.slice a_1 l c) ∧
  ∃ (a_2 : Option Addr),
  ∃ (l_1 : Nat),
  ∃ (c : Nat),
  Ld Go.Proofs.Try.prog (41 : Nat) (World.drew w1_1) (Addr.mk b (2 : Nat) none) (Value.slice a_2 l_1 c) ∧
  onP a_2 fun (a_3 : Addr) ↦
  ((0 : Int) ≤ Prod.snd (Prod.snd s) ∧ Prod.snd (Prod.snd s) < (↑l_1 : Int)) ∧
  ∃ (i : Int),
  Ld Go.Proofs.Try.prog (3 : Nat) (World.drew w1_1) (Addr.add (Addr.add a_3 (Int.toNat (Prod.snd (Prod.snd s)) * (2 : Nat))) (1 : Nat))
  (Value.int IntKind.i64 i) ∧
  onP a_1 fun (a_4 : Addr) ↦
  ((0 : Int) ≤ i ∧ i < (↑l : Int)) ∧
  ∃ (a_5 : Option Addr),
  ∃ (l : Nat),
  ∃ (c : Nat),
  Ld Go.Proofs.Try.prog (33 : Nat) (World.drew w1_1) (Addr.add a_4 (Int.toNat i * (3 : Nat))) (Value.slice a_5 l c) ∧
  ∀ (b : Nat) (w1 : World),
  New (World.drew w1_1) (Obj.cells #[Value.slice a_5 l c] (33 : Nat)) b w1 →
  ∃ (a_7 : Option Addr),
  ∃ (n_1 : Nat),
  ∃ (m_1 : Nat),
  ∃ (w1_2 : World),
  App Go.Proofs.Try.prog #[(114 : Nat), (114 : Nat)] (114 : Nat) w1
  (Value.slice (Prod.fst (Prod.fst (Prod.snd s))) (Prod.fst (Prod.snd (Prod.fst (Prod.snd s))))
  (Prod.snd (Prod.snd (Prod.fst (Prod.snd s)))))
  (Value.slice (some (Addr.mk b (0 : Nat) none)) (1 : Nat) (1 : Nat)) (Value.slice a_7 n_1 m_1) w1_2 ∧
  inR IntKind.i64 (Prod.snd (Prod.snd s) + (1 : Int)) ∧
  next ((a, n, m), (a_7, n_1, m_1), Prod.snd (Prod.snd s) + (1 : Int)) w1_2)
  (R
  (Ending.returned
  (Value.tuple
  #[Value.slice (Prod.fst (Prod.fst s)) (Prod.fst (Prod.snd (Prod.fst s))) (Prod.snd (Prod.snd (Prod.fst s))),
  Value.slice (Prod.fst (Prod.fst (Prod.snd s))) (Prod.fst (Prod.snd (Prod.fst (Prod.snd s)))) (Prod.snd (Prod.snd (Prod.fst (Prod.snd s))))]))
  w'))
  ((none, (0 : Nat), (0 : Nat)), (none, (0 : Nat), (0 : Nat)), (0 : Int)) w1
theorem rtold.eq (d_Room : Int) (d_Filesa : Option Addr) (d_Filesn : Nat) (d_Filesc : Nat) (d_Namesa : Option Addr) (d_Namesn : Nat) (d_Namesc : Nat) (d_Firma : Option Addr) (d_Firmn : Nat) (d_Firmc : Nat) (d_Sincea : Option Addr) (d_Sincen : Nat) (d_Sincec : Nat) (d_Armed : Int) (d_Denied : Int) (d_Dead : Bool) (w : World) (R : Ending → World → Prop) : bodyV Go.Proofs.Try.prog rtold.an Go.Proofs.Try.f55 [.agg #[.int .i64 d_Room, .slice d_Filesa d_Filesn d_Filesc, .slice d_Namesa d_Namesn d_Namesc, .slice d_Firma d_Firmn d_Firmc, .slice d_Sincea d_Sincen d_Sincec, .int .i64 d_Armed, .int .i64 d_Denied, .bool d_Dead]] w R = rtold.vc d_Room d_Filesa d_Filesn d_Filesc d_Namesa d_Namesn d_Namesc d_Firma d_Firmn d_Firmc d_Sincea d_Sincen d_Sincec d_Armed d_Denied d_Dead w R := by kernel_rfl
theorem rtold.ok (d_Room : Int) (d_Filesa : Option Addr) (d_Filesn : Nat) (d_Filesc : Nat) (d_Namesa : Option Addr) (d_Namesn : Nat) (d_Namesc : Nat) (d_Firma : Option Addr) (d_Firmn : Nat) (d_Firmc : Nat) (d_Sincea : Option Addr) (d_Sincen : Nat) (d_Sincec : Nat) (d_Armed : Int) (d_Denied : Int) (d_Dead : Bool) (w : World) (R : Ending → World → Prop) (h : rtold.vc d_Room d_Filesa d_Filesn d_Filesc d_Namesa d_Namesn d_Namesc d_Firma d_Firmn d_Firmc d_Sincea d_Sincen d_Sincec d_Armed d_Denied d_Dead w R) : Calls Go.Proofs.Try.prog 55 #[.agg #[.int .i64 d_Room, .slice d_Filesa d_Filesn d_Filesc, .slice d_Namesa d_Namesn d_Namesc, .slice d_Firma d_Firmn d_Firmc, .slice d_Sincea d_Sincen d_Sincec, .int .i64 d_Armed, .int .i64 d_Denied, .bool d_Dead]] w R :=
  calls_of_bodyV noNum (an := rtold.an) (args := [.agg #[.int .i64 d_Room, .slice d_Filesa d_Filesn d_Filesc, .slice d_Namesa d_Namesn d_Namesc, .slice d_Firma d_Firmn d_Firmc, .slice d_Sincea d_Sincen d_Sincec, .int .i64 d_Armed, .int .i64 d_Denied, .bool d_Dead]]) Go.Proofs.Try.func55 (by kernel_rfl) ((rtold.eq d_Room d_Filesa d_Filesn d_Filesc d_Namesa d_Namesn d_Namesc d_Firma d_Firmn d_Firmc d_Sincea d_Sincen d_Sincec d_Armed d_Denied d_Dead w R).mpr h)

/-- incunable/incunableref09.Used -/
def rused.an : An := { wraps := [], loops := [(3, [(3, .inl .i64), (4, .inl .i64)])], joins := [], ranges := [] }
def rused.vc (d_Room : Int) (d_Filesa : Option Addr) (d_Filesn : Nat) (d_Filesc : Nat) (d_Namesa : Option Addr) (d_Namesn : Nat) (d_Namesc : Nat) (d_Firma : Option Addr) (d_Firmn : Nat) (d_Firmc : Nat) (d_Sincea : Option Addr) (d_Sincen : Nat) (d_Sincec : Nat) (d_Armed : Int) (d_Denied : Int) (d_Dead : Bool) (w : World) (R : Ending → World → Prop) : Prop :=
  ∀ (b : Nat) (w1 : World),
  New w
  (Obj.cells
  #[Value.int IntKind.i64 d_Room, Value.slice d_Filesa d_Filesn d_Filesc, Value.slice d_Namesa d_Namesn d_Namesc, Value.slice d_Firma d_Firmn d_Firmc, Value.slice d_Sincea d_Sincen d_Sincec,
  Value.int IntKind.i64 d_Armed, Value.int IntKind.i64 d_Denied, Value.bool d_Dead]
  (44 : Nat))
  b w1 →
  LoopP
  (fun (s : Int × Int) (w' : World) (next : Int × Int → World → Prop) ↦
  ∃ (a : Option Addr),
  ∃ (l : Nat),
  ∃ (c : Nat),
  Ld Go.Proofs.Try.prog (41 : Nat) w' (Addr.mk b (2 : Nat) none) (Value.slice a l c) ∧
  br (decide (Prod.snd s < (↑l : Int)))
  (∃ (a : Option Addr),
  ∃ (l : Nat),
  ∃ (c : Nat),
  Ld Go.Proofs.Try.prog (40 : Nat) (World.drew w') (Addr.mk b (1 : Nat) none) (Value.slice a l c) ∧
  ∃ (a_1 : Option Addr),
  ∃ (l_1 : Nat),
  ∃ (c : Nat),
  Ld Go.Proofs.Try.prog (41 : Nat) (World.drew w') (Addr.mk b (2 : Nat) none) (Value.slice a_1 l_1 c) ∧
  onP a_1 fun (a_2 : Addr) ↦
  ((0 : Int) ≤ Prod.snd s ∧ Prod.snd s < (↑l_1 : Int)) ∧
  ∃ (i : Int),
  Ld Go.Proofs.Try.prog (3 : Nat) (World.drew w') (Addr.add (Addr.add a_2 (Int.toNat (Prod.snd s) * (2 : Nat))) (1 : Nat)) (Value.int IntKind.i64 i) ∧
  onP a fun (a : Addr) ↦
  ((0 : Int) ≤ i ∧ i < (↑l : Int)) ∧
  ∃ (a_3 : Option Addr),
  ∃ (l : Nat),
  ∃ (c : Nat),
  Ld Go.Proofs.Try.prog (33 : Nat) (World.drew w') (Addr.add a (Int.toNat i * (3 : Nat))) (Value.slice a_3 l c) ∧
  inR IntKind.i64 (Prod.fst s + (↑l : Int)) ∧
  inR IntKind.i64 (Prod.snd s + (1 : Int)) ∧ next (Prod.fst s + (↑l : Int), Prod.snd s + (1 : Int)) (World.drew w'))
  (R (Ending.returned (Value.int IntKind.i64 (Prod.fst s))) w'))
  ((0 : Int), (0 : Int)) w1
theorem rused.eq (d_Room : Int) (d_Filesa : Option Addr) (d_Filesn : Nat) (d_Filesc : Nat) (d_Namesa : Option Addr) (d_Namesn : Nat) (d_Namesc : Nat) (d_Firma : Option Addr) (d_Firmn : Nat) (d_Firmc : Nat) (d_Sincea : Option Addr) (d_Sincen : Nat) (d_Sincec : Nat) (d_Armed : Int) (d_Denied : Int) (d_Dead : Bool) (w : World) (R : Ending → World → Prop) : bodyV Go.Proofs.Try.prog rused.an Go.Proofs.Try.f69 [.agg #[.int .i64 d_Room, .slice d_Filesa d_Filesn d_Filesc, .slice d_Namesa d_Namesn d_Namesc, .slice d_Firma d_Firmn d_Firmc, .slice d_Sincea d_Sincen d_Sincec, .int .i64 d_Armed, .int .i64 d_Denied, .bool d_Dead]] w R = rused.vc d_Room d_Filesa d_Filesn d_Filesc d_Namesa d_Namesn d_Namesc d_Firma d_Firmn d_Firmc d_Sincea d_Sincen d_Sincec d_Armed d_Denied d_Dead w R := by kernel_rfl
theorem rused.ok (d_Room : Int) (d_Filesa : Option Addr) (d_Filesn : Nat) (d_Filesc : Nat) (d_Namesa : Option Addr) (d_Namesn : Nat) (d_Namesc : Nat) (d_Firma : Option Addr) (d_Firmn : Nat) (d_Firmc : Nat) (d_Sincea : Option Addr) (d_Sincen : Nat) (d_Sincec : Nat) (d_Armed : Int) (d_Denied : Int) (d_Dead : Bool) (w : World) (R : Ending → World → Prop) (h : rused.vc d_Room d_Filesa d_Filesn d_Filesc d_Namesa d_Namesn d_Namesc d_Firma d_Firmn d_Firmc d_Sincea d_Sincen d_Sincec d_Armed d_Denied d_Dead w R) : Calls Go.Proofs.Try.prog 69 #[.agg #[.int .i64 d_Room, .slice d_Filesa d_Filesn d_Filesc, .slice d_Namesa d_Namesn d_Namesc, .slice d_Firma d_Firmn d_Firmc, .slice d_Sincea d_Sincen d_Sincec, .int .i64 d_Armed, .int .i64 d_Denied, .bool d_Dead]] w R :=
  calls_of_bodyV noNum (an := rused.an) (args := [.agg #[.int .i64 d_Room, .slice d_Filesa d_Filesn d_Filesc, .slice d_Namesa d_Namesn d_Namesc, .slice d_Firma d_Firmn d_Firmc, .slice d_Sincea d_Sincen d_Sincec, .int .i64 d_Armed, .int .i64 d_Denied, .bool d_Dead]]) Go.Proofs.Try.func69 (by kernel_rfl) ((rused.eq d_Room d_Filesa d_Filesn d_Filesc d_Namesa d_Namesn d_Namesc d_Firma d_Firmn d_Firmc d_Sincea d_Sincen d_Sincec d_Armed d_Denied d_Dead w R).mpr h)

/-- incunable/incunableref09.found -/
def rfound.an : An := { wraps := [], loops := [(4, [(6, .inr 3), (8, .inl .i64)]), (10, [(6, .inr 3)])], joins := [(9, [(9, .inl .i64)])], ranges := [] }
def rfound.vc (f_Nowa : Option Addr) (f_Nown : Nat) (f_Nowc : Nat) (f_Firma : Option Addr) (f_Firmn : Nat) (f_Firmc : Nat) (f_Sincea : Option Addr) (f_Sincen : Nat) (f_Sincec : Nat) (picksa : Option Addr) (picksn : Nat) (picksc : Nat) (w : World) (R : Ending → World → Prop) : Prop :=
  ∀ (b : Nat) (w1 : World),
  New w (Obj.cells #[Value.slice f_Nowa f_Nown f_Nowc, Value.slice f_Firma f_Firmn f_Firmc, Value.slice f_Sincea f_Sincen f_Sincec] (106 : Nat)) b w1 →
  ∀ (b_1 : Nat) (w1_1 : World),
  New w1 (Obj.cells #[Value.slice none (0 : Nat) (0 : Nat), Value.slice none (0 : Nat) (0 : Nat), Value.slice none (0 : Nat) (0 : Nat)] (106 : Nat)) b_1 w1_1 →
  ∀ (b_2 : Nat) (w1 : World),
  New w1_1 (Obj.cells #[] (9 : Nat)) b_2 w1 →
  ∃ (a : Option Addr),
  ∃ (l : Nat),
  ∃ (c : Nat),
  Ld Go.Proofs.Try.prog (33 : Nat) w1 (Addr.mk b (1 : Nat) none) (Value.slice a l c) ∧
  ∃ (a_1 : Option Addr),
  ∃ (n : Nat),
  ∃ (m : Nat),
  ∃ (w1_2 : World),
  App Go.Proofs.Try.prog #[(33 : Nat), (33 : Nat)] (33 : Nat) w1 (Value.slice (some (Addr.mk b_2 (0 : Nat) none)) (0 : Nat) (0 : Nat)) (Value.slice a l c) (Value.slice a_1 n m)
  w1_2 ∧
  ∃ (a : Option Addr),
  ∃ (n_1 : Nat),
  ∃ (m_1 : Nat),
  ∃ (w1 : World),
  MkS Go.Proofs.Try.prog (46 : Nat) w1_2 (Value.int IntKind.i64 (512 : Int)) (Value.int IntKind.i64 (512 : Int)) (Value.slice a n_1 m_1) w1 ∧
  ∃ (s : ByteArray),
  B2S Go.Proofs.Try.prog (46 : Nat) (9 : Nat) w1 (Value.slice a n_1 m_1) (Value.string s) ∧
  LoopP
  (fun (s_1 : (Option Addr × Nat × Nat) × Int) (w' : World) (next : (Option Addr × Nat × Nat) × Int → World → Prop) ↦
  ∃ (a : Option Addr),
  ∃ (l : Nat),
  ∃ (c : Nat),
  Ld Go.Proofs.Try.prog (47 : Nat) w' (Addr.mk b (2 : Nat) none) (Value.slice a l c) ∧
  br (decide (Prod.snd s_1 < (↑l : Int)))
  (JoinP
  (fun (s_2 : Int) (w' : World) ↦
  ∃ (a : Option Addr),
  ∃ (l : Nat),
  ∃ (c : Nat),
  Ld Go.Proofs.Try.prog (47 : Nat) w' (Addr.mk b (2 : Nat) none) (Value.slice a l c) ∧
  onP a fun (a : Addr) ↦
  ((0 : Int) ≤ Prod.snd s_1 ∧ Prod.snd s_1 < (↑l : Int)) ∧
  ∃ (i : Int),
  Ld Go.Proofs.Try.prog (3 : Nat) w' (Addr.add a (Int.toNat (Prod.snd s_1) * (1 : Nat))) (Value.int IntKind.i64 i) ∧
  LoopP
  (fun (s_3 : Option Addr × Nat × Nat) (w' : World) (next_1 : Option Addr × Nat × Nat → World → Prop) ↦
  br (decide ((↑(Prod.fst (Prod.snd s_3)) : Int) ≤ i))
  (br (decide ((0 : Int) < s_2))
  (∀ (b : Nat) (w1 : World),
  New w' (Obj.cells #[Value.string s] (9 : Nat)) b w1 →
  ∃ (a : Option Addr),
  ∃ (n : Nat),
  ∃ (m : Nat),
  ∃ (w1_3 : World),
  App Go.Proofs.Try.prog #[(33 : Nat), (33 : Nat)] (33 : Nat) w1
  (Value.slice (Prod.fst s_3) (Prod.fst (Prod.snd s_3)) (Prod.snd (Prod.snd s_3)))
  (Value.slice (some (Addr.mk b (0 : Nat) none)) (1 : Nat) (1 : Nat)) (Value.slice a n m) w1_3 ∧
  next_1 (a, n, m) w1_3)
  (br (decide ((0 : Int) < s_2))
  (∃ (a : Option Addr),
  ∃ (l : Nat),
  ∃ (c : Nat),
  Ld Go.Proofs.Try.prog (33 : Nat) (World.drew w') (Addr.mk b (0 : Nat) none) (Value.slice a l c) ∧
  onP a fun (a : Addr) ↦
  ((0 : Int) ≤ i ∧ i < (↑l : Int)) ∧
  ∃ (s : ByteArray),
  Ld Go.Proofs.Try.prog (9 : Nat) (World.drew w') (Addr.add a (Int.toNat i * (1 : Nat)))
  (Value.string s) ∧
  ((0 : Int) ≤ s_2 ∧ s_2 ≤ (↑(ByteArray.size s) : Int)) ∧
  onP (Prod.fst s_3) fun (a : Addr) ↦
  ((0 : Int) ≤ i ∧ i < (↑(Prod.fst (Prod.snd s_3)) : Int)) ∧
  ∃ (s_4 : ByteArray),
  Ld Go.Proofs.Try.prog (9 : Nat) (World.drew w') (Addr.add a (Int.toNat i * (1 : Nat)))
  (Value.string s_4) ∧
  ((0 : Int) ≤ s_2 ∧ s_2 ≤ (↑(ByteArray.size s_4) : Int)) ∧
  (↑(ByteArray.size (ByteArray.extract s (0 : Nat) (Int.toNat s_2)) +
  ByteArray.size
  (ByteArray.extract s_4 (Int.toNat s_2) (ByteArray.size s_4))) :
  Int) ≤
  (9223372036854775807 : Int) ∧
  onP (Prod.fst s_3) fun (a : Addr) ↦
  ((0 : Int) ≤ i ∧ i < (↑(Prod.fst (Prod.snd s_3)) : Int)) ∧
  ∃ (w1 : World),
  St Go.Proofs.Try.prog (9 : Nat) (World.drew w')
  (Addr.add a (Int.toNat i * (1 : Nat)))
  (Value.string
  (ByteArray.extract s (0 : Nat) (Int.toNat s_2) ++
  ByteArray.extract s_4 (Int.toNat s_2) (ByteArray.size s_4)))
  w1 ∧
  inR IntKind.i64 (Prod.snd s_1 + (1 : Int)) ∧
  next
  ((Prod.fst s_3, Prod.fst (Prod.snd s_3), Prod.snd (Prod.snd s_3)),
  Prod.snd s_1 + (1 : Int))
  w1)
  (inR IntKind.i64 (Prod.snd s_1 + (1 : Int)) ∧
  next ((Prod.fst s_3, Prod.fst (Prod.snd s_3), Prod.snd (Prod.snd s_3)), Prod.snd s_1 + (1 : Int)) w')))
  (br (decide ((0 : Int) < s_2))
  (∃ (a : Option Addr),
  ∃ (l : Nat),
  ∃ (c : Nat),
  Ld Go.Proofs.Try.prog (33 : Nat) (World.drew w') (Addr.mk b (0 : Nat) none) (Value.slice a l c) ∧
  onP a fun (a : Addr) ↦
  ((0 : Int) ≤ i ∧ i < (↑l : Int)) ∧
  ∃ (s : ByteArray),
  Ld Go.Proofs.Try.prog (9 : Nat) (World.drew w') (Addr.add a (Int.toNat i * (1 : Nat)))
  (Value.string s) ∧
  ((0 : Int) ≤ s_2 ∧ s_2 ≤ (↑(ByteArray.size s) : Int)) ∧
  onP (Prod.fst s_3) fun (a : Addr) ↦
  ((0 : Int) ≤ i ∧ i < (↑(Prod.fst (Prod.snd s_3)) : Int)) ∧
  ∃ (s_4 : ByteArray),
  Ld Go.Proofs.Try.prog (9 : Nat) (World.drew w') (Addr.add a (Int.toNat i * (1 : Nat)))
  (Value.string s_4) ∧
  ((0 : Int) ≤ s_2 ∧ s_2 ≤ (↑(ByteArray.size s_4) : Int)) ∧
  (↑(ByteArray.size (ByteArray.extract s (0 : Nat) (Int.toNat s_2)) +
  ByteArray.size
  (ByteArray.extract s_4 (Int.toNat s_2) (ByteArray.size s_4))) :
  Int) ≤
  (9223372036854775807 : Int) ∧
  onP (Prod.fst s_3) fun (a : Addr) ↦
  ((0 : Int) ≤ i ∧ i < (↑(Prod.fst (Prod.snd s_3)) : Int)) ∧
  ∃ (w1 : World),
  St Go.Proofs.Try.prog (9 : Nat) (World.drew w')
  (Addr.add a (Int.toNat i * (1 : Nat)))
  (Value.string
  (ByteArray.extract s (0 : Nat) (Int.toNat s_2) ++
  ByteArray.extract s_4 (Int.toNat s_2) (ByteArray.size s_4)))
  w1 ∧
  inR IntKind.i64 (Prod.snd s_1 + (1 : Int)) ∧
  next
  ((Prod.fst s_3, Prod.fst (Prod.snd s_3), Prod.snd (Prod.snd s_3)),
  Prod.snd s_1 + (1 : Int))
  w1)
  (inR IntKind.i64 (Prod.snd s_1 + (1 : Int)) ∧
  next ((Prod.fst s_3, Prod.fst (Prod.snd s_3), Prod.snd (Prod.snd s_3)), Prod.snd s_1 + (1 : Int)) w')))
  (Prod.fst (Prod.fst s_1), Prod.fst (Prod.snd (Prod.fst s_1)), Prod.snd (Prod.snd (Prod.fst s_1))) w')
  fun (J : Int → World → Prop) ↦
  br (decide (Prod.snd s_1 < (↑picksn : Int)))
  (onP picksa fun (a : Addr) ↦
  ((0 : Int) ≤ Prod.snd s_1 ∧ Prod.snd s_1 < (↑picksn : Int)) ∧
  ∃ (i : Int),
  Ld Go.Proofs.Try.prog (3 : Nat) w' (Addr.add a (Int.toNat (Prod.snd s_1) * (1 : Nat))) (Value.int IntKind.i64 i) ∧
  J (min (max i (0 : Int)) (512 : Int)) w')
  (J (0 : Int) w'))
  (∃ (a : Option Addr),
  ∃ (l : Nat),
  ∃ (c : Nat),
  Ld Go.Proofs.Try.prog (47 : Nat) (World.drew w') (Addr.mk b (2 : Nat) none) (Value.slice a l c) ∧
  ∃ (w1 : World),
  St Go.Proofs.Try.prog (106 : Nat) (World.drew w') (Addr.mk b_1 (0 : Nat) none)
  (Value.agg
  #[Value.slice (Prod.fst (Prod.fst s_1)) (Prod.fst (Prod.snd (Prod.fst s_1))) (Prod.snd (Prod.snd (Prod.fst s_1))),
  Value.slice (Prod.fst (Prod.fst s_1)) (Prod.fst (Prod.snd (Prod.fst s_1))) (Prod.snd (Prod.snd (Prod.fst s_1))),
  Value.slice none (0 : Nat) (0 : Nat)])
  w1 ∧
  Ld Go.Proofs.Try.prog (47 : Nat) w1 (Addr.mk b (2 : Nat) none) (Value.slice a l c) ∧
  ∃ (a : Option Addr),
  ∃ (l_1 : Nat),
  ∃ (c : Nat),
  ∃ (a_2 : Option Addr),
  ∃ (l_2 : Nat),
  ∃ (c_1 : Nat),
  ∃ (a_3 : Option Addr),
  ∃ (l_3 : Nat),
  ∃ (c_2 : Nat),
  Ld Go.Proofs.Try.prog (106 : Nat) w1 (Addr.mk b_1 (0 : Nat) none)
  (Value.agg #[Value.slice a l_1 c, Value.slice a_2 l_2 c_1, Value.slice a_3 l_3 c_2]) ∧
  R
  (Ending.returned
  (Value.tuple
  #[Value.agg #[Value.slice a l_1 c, Value.slice a_2 l_2 c_1, Value.slice a_3 l_3 c_2],
  Value.int IntKind.i64 (↑l : Int)]))
  w1))
  ((a_1, n, m), (0 : Int)) w1
theorem rfound.eq (f_Nowa : Option Addr) (f_Nown : Nat) (f_Nowc : Nat) (f_Firma : Option Addr) (f_Firmn : Nat) (f_Firmc : Nat) (f_Sincea : Option Addr) (f_Sincen : Nat) (f_Sincec : Nat) (picksa : Option Addr) (picksn : Nat) (picksc : Nat) (w : World) (R : Ending → World → Prop) : bodyV Go.Proofs.Try.prog rfound.an Go.Proofs.Try.f66 [.agg #[.slice f_Nowa f_Nown f_Nowc, .slice f_Firma f_Firmn f_Firmc, .slice f_Sincea f_Sincen f_Sincec], .slice picksa picksn picksc] w R = rfound.vc f_Nowa f_Nown f_Nowc f_Firma f_Firmn f_Firmc f_Sincea f_Sincen f_Sincec picksa picksn picksc w R := by kernel_rfl
theorem rfound.ok (f_Nowa : Option Addr) (f_Nown : Nat) (f_Nowc : Nat) (f_Firma : Option Addr) (f_Firmn : Nat) (f_Firmc : Nat) (f_Sincea : Option Addr) (f_Sincen : Nat) (f_Sincec : Nat) (picksa : Option Addr) (picksn : Nat) (picksc : Nat) (w : World) (R : Ending → World → Prop) (h : rfound.vc f_Nowa f_Nown f_Nowc f_Firma f_Firmn f_Firmc f_Sincea f_Sincen f_Sincec picksa picksn picksc w R) : Calls Go.Proofs.Try.prog 66 #[.agg #[.slice f_Nowa f_Nown f_Nowc, .slice f_Firma f_Firmn f_Firmc, .slice f_Sincea f_Sincen f_Sincec], .slice picksa picksn picksc] w R :=
  calls_of_bodyV noNum (an := rfound.an) (args := [.agg #[.slice f_Nowa f_Nown f_Nowc, .slice f_Firma f_Firmn f_Firmc, .slice f_Sincea f_Sincen f_Sincec], .slice picksa picksn picksc]) Go.Proofs.Try.func66 (by kernel_rfl) ((rfound.eq f_Nowa f_Nown f_Nowc f_Firma f_Firmn f_Firmc f_Sincea f_Sincen f_Sincec picksa picksn picksc w R).mpr h)

/-- incunable/incunableref09.why -/
def rwhy.an : An := { wraps := [], loops := [], joins := [(4, [(16, .inr 0)]), (6, [(32, .inr 0)]), (9, [(56, .inr 0)]), (11, [(72, .inr 0)]), (13, [(86, .inr 0)]), (15, [(95, .inr 0)])], ranges := [] }
def rwhy.vc (d_Room : Int) (d_Filesa : Option Addr) (d_Filesn : Nat) (d_Filesc : Nat) (d_Namesa : Option Addr) (d_Namesn : Nat) (d_Namesc : Nat) (d_Firma : Option Addr) (d_Firmn : Nat) (d_Firmc : Nat) (d_Sincea : Option Addr) (d_Sincen : Nat) (d_Sincec : Nat) (d_Armed : Int) (d_Denied : Int) (d_Dead : Bool) (o_Kind : Int) (o_N : Int) (o_Name : ByteArray) (o_To : ByteArray) (o_Ba : Option Addr) (o_Bn : Nat) (o_Bc : Nat) (o_Picksa : Option Addr) (o_Picksn : Nat) (o_Picksc : Nat) (w : World) (R : Ending → World → Prop) : Prop :=
  ∀ (b : Nat) (w1 : World),
  New w
  (Obj.cells
  #[Value.int IntKind.i64 d_Room, Value.slice d_Filesa d_Filesn d_Filesc, Value.slice d_Namesa d_Namesn d_Namesc, Value.slice d_Firma d_Firmn d_Firmc, Value.slice d_Sincea d_Sincen d_Sincec,
  Value.int IntKind.i64 d_Armed, Value.int IntKind.i64 d_Denied, Value.bool d_Dead]
  (44 : Nat))
  b w1 →
  ∀ (b_1 : Nat) (w1_1 : World),
  New w1
  (Obj.cells #[Value.int IntKind.i64 o_Kind, Value.int IntKind.i64 o_N, Value.string o_Name, Value.string o_To, Value.slice o_Ba o_Bn o_Bc, Value.slice o_Picksa o_Picksn o_Picksc] (49 : Nat))
  b_1 w1_1 →
  ∃ (b_2 : Bool),
  Ld Go.Proofs.Try.prog (4 : Nat) w1_1 (Addr.mk b (7 : Nat) none) (Value.bool b_2) ∧
  br b_2 (R (Ending.returned (Value.int IntKind.i64 (93 : Int))) w1_1)
  (JoinP
  (fun (s : Bool) (w' : World) ↦
  br s (R (Ending.returned (Value.int IntKind.i64 (92 : Int))) w')
  (JoinP
  (fun (s : Bool) (w' : World) ↦
  br s (R (Ending.returned (Value.int IntKind.i64 (90 : Int))) w')
  (∃ (i : Int),
  ∃ (a : Option Addr),
  ∃ (l : Nat),
  ∃ (c : Nat),
  ∃ (a_1 : Option Addr),
  ∃ (l_1 : Nat),
  ∃ (c_1 : Nat),
  ∃ (a_2 : Option Addr),
  ∃ (l_2 : Nat),
  ∃ (c_2 : Nat),
  ∃ (a_3 : Option Addr),
  ∃ (l_3 : Nat),
  ∃ (c_3 : Nat),
  ∃ (i_1 : Int),
  ∃ (i_2 : Int),
  ∃ (b_3 : Bool),
  Ld Go.Proofs.Try.prog (44 : Nat) w' (Addr.mk b (0 : Nat) none)
  (Value.agg
  #[Value.int IntKind.i64 i, Value.slice a l c, Value.slice a_1 l_1 c_1, Value.slice a_2 l_2 c_2, Value.slice a_3 l_3 c_3,
  Value.int IntKind.i64 i_1, Value.int IntKind.i64 i_2, Value.bool b_3]) ∧
  ∃ (s : ByteArray),
  Ld Go.Proofs.Try.prog (9 : Nat) w' (Addr.mk b_1 (2 : Nat) none) (Value.string s) ∧
  CallV Go.Proofs.Try.prog (68 : Nat)
  [Value.agg
  #[Value.int IntKind.i64 i, Value.slice a l c, Value.slice a_1 l_1 c_1, Value.slice a_2 l_2 c_2, Value.slice a_3 l_3 c_3,
  Value.int IntKind.i64 i_1, Value.int IntKind.i64 i_2, Value.bool b_3],
  Value.string s]
  w' fun (e : Ending) (w' : World) ↦
  ∃ (i : Int),
  e = Ending.returned (Value.int IntKind.i64 i) ∧
  JoinP
  (fun (s : Bool) (w' : World) ↦
  br s (R (Ending.returned (Value.int IntKind.i64 (91 : Int))) w')
  (JoinP
  (fun (s : Bool) (w' : World) ↦
  br s (R (Ending.returned (Value.int IntKind.i64 (94 : Int))) w')
  (JoinP
  (fun (s : Bool) (w' : World) ↦
  br s (R (Ending.returned (Value.int IntKind.i64 (91 : Int))) w')
  (JoinP
  (fun (s : Bool) (w' : World) ↦
  br s (R (Ending.returned (Value.int IntKind.i64 (92 : Int))) w')
  (R (Ending.returned (Value.int IntKind.i64 (0 : Int))) w'))
  fun (J : Bool → World → Prop) ↦
  ∃ (i : Int),
  Ld Go.Proofs.Try.prog (3 : Nat) w' (Addr.mk b_1 (0 : Nat) none) (Value.int IntKind.i64 i) ∧
  br (decide (i = (4 : Int)))
  (∃ (s : ByteArray),
  Ld Go.Proofs.Try.prog (9 : Nat) w' (Addr.mk b_1 (3 : Nat) none) (Value.string s) ∧
  CallV Go.Proofs.Try.prog (67 : Nat) [Value.string s] w' fun (e : Ending) (w' : World) ↦
  ∃ (b : Bool), e = Ending.returned (Value.bool b) ∧ J (!b) w')
  (J false w')))
  fun (J : Bool → World → Prop) ↦
  ∃ (i_3 : Int),
  Ld Go.Proofs.Try.prog (3 : Nat) w' (Addr.mk b_1 (0 : Nat) none) (Value.int IntKind.i64 i_3) ∧
  br (decide (i_3 = (2 : Int)))
  (∃ (i_4 : Int),
  Ld Go.Proofs.Try.prog (3 : Nat) w' (Addr.mk b_1 (1 : Nat) none) (Value.int IntKind.i64 i_4) ∧
  br (decide (i_4 < (0 : Int))) (J true w')
  (∃ (i_5 : Int),
  Ld Go.Proofs.Try.prog (3 : Nat) w' (Addr.mk b_1 (1 : Nat) none) (Value.int IntKind.i64 i_5) ∧
  J (decide (i ≤ i_5)) w'))
  (J false w')))
  fun (J : Bool → World → Prop) ↦
  ∃ (i_3 : Int),
  Ld Go.Proofs.Try.prog (3 : Nat) (World.drew w') (Addr.mk b_1 (0 : Nat) none) (Value.int IntKind.i64 i_3) ∧
  br (decide (i_3 = (1 : Int)))
  (∃ (i_4 : Int),
  Ld Go.Proofs.Try.prog (3 : Nat) (World.drew w') (Addr.mk b_1 (1 : Nat) none) (Value.int IntKind.i64 i_4) ∧
  br (decide (i_4 = i))
  (∃ (i : Int),
  ∃ (a : Option Addr),
  ∃ (l : Nat),
  ∃ (c : Nat),
  ∃ (a_4 : Option Addr),
  ∃ (l_4 : Nat),
  ∃ (c_4 : Nat),
  ∃ (a_5 : Option Addr),
  ∃ (l_5 : Nat),
  ∃ (c_5 : Nat),
  ∃ (a_6 : Option Addr),
  ∃ (l_6 : Nat),
  ∃ (c_6 : Nat),
  ∃ (i_5 : Int),
  ∃ (i_6 : Int),
  ∃ (b_4 : Bool),
  Ld Go.Proofs.Try.prog (44 : Nat) (World.drew w') (Addr.mk b (0 : Nat) none)
  (Value.agg
  #[Value.int IntKind.i64 i, Value.slice a l c, Value.slice a_4 l_4 c_4,
  Value.slice a_5 l_5 c_5, Value.slice a_6 l_6 c_6,
  Value.int IntKind.i64 i_5, Value.int IntKind.i64 i_6,
  Value.bool b_4]) ∧
  ∃ (i_7 : Int),
  Ld Go.Proofs.Try.prog (3 : Nat) (World.drew w') (Addr.mk b (0 : Nat) none)
  (Value.int IntKind.i64 i_7) ∧
  CallV Go.Proofs.Try.prog (69 : Nat)
  [Value.agg
  #[Value.int IntKind.i64 i, Value.slice a l c,
  Value.slice a_4 l_4 c_4, Value.slice a_5 l_5 c_5,
  Value.slice a_6 l_6 c_6, Value.int IntKind.i64 i_5,
  Value.int IntKind.i64 i_6, Value.bool b_4]]
  (World.drew w') fun (e : Ending) (w' : World) ↦
  ∃ (i : Int),
  e = Ending.returned (Value.int IntKind.i64 i) ∧
  Ld Go.Proofs.Try.prog (3 : Nat) w' (Addr.mk b (0 : Nat) none)
  (Value.int IntKind.i64 i_7) ∧
  J (decide (i_7 ≤ i)) w')
  (J false (World.drew w')))
  (J false (World.drew w'))))
  fun (J : Bool → World → Prop) ↦
  ∃ (i_3 : Int),
  Ld Go.Proofs.Try.prog (3 : Nat) w' (Addr.mk b_1 (0 : Nat) none) (Value.int IntKind.i64 i_3) ∧
  br (decide (i_3 = (1 : Int)))
  (∃ (i_4 : Int),
  Ld Go.Proofs.Try.prog (3 : Nat) w' (Addr.mk b_1 (1 : Nat) none) (Value.int IntKind.i64 i_4) ∧
  br (decide (i_4 < (0 : Int))) (J true w')
  (∃ (i_5 : Int),
  Ld Go.Proofs.Try.prog (3 : Nat) w' (Addr.mk b_1 (1 : Nat) none) (Value.int IntKind.i64 i_5) ∧
  br (decide (i < i_5)) (J true w')
  (∃ (a : Option Addr),
  ∃ (l : Nat),
  ∃ (c : Nat),
  Ld Go.Proofs.Try.prog (46 : Nat) w' (Addr.mk b_1 (4 : Nat) none) (Value.slice a l c) ∧
  J (decide ((512 : Int) < (↑l : Int))) w')))
  (J false w')))
  fun (J : Bool → World → Prop) ↦
  ∃ (i : Int),
  Ld Go.Proofs.Try.prog (3 : Nat) w' (Addr.mk b_1 (0 : Nat) none) (Value.int IntKind.i64 i) ∧
  br (decide ((1 : Int) ≤ i))
  (∃ (i : Int),
  Ld Go.Proofs.Try.prog (3 : Nat) w' (Addr.mk b_1 (0 : Nat) none) (Value.int IntKind.i64 i) ∧
  br (decide (i ≤ (5 : Int)))
  (∃ (a : Option Addr),
  ∃ (l : Nat),
  ∃ (c : Nat),
  Ld Go.Proofs.Try.prog (41 : Nat) w' (Addr.mk b (2 : Nat) none) (Value.slice a l c) ∧
  ∃ (s : ByteArray),
  Ld Go.Proofs.Try.prog (9 : Nat) w' (Addr.mk b_1 (2 : Nat) none) (Value.string s) ∧
  CallV Go.Proofs.Try.prog (50 : Nat) [Value.slice a l c, Value.string s] w' fun (e : Ending) (w' : World) ↦
  ∃ (i : Int), e = Ending.returned (Value.int IntKind.i64 i) ∧ J (decide (i < (0 : Int))) w')
  (J false w'))
  (J false w')))
  fun (J : Bool → World → Prop) ↦
  ∃ (i : Int),
  Ld Go.Proofs.Try.prog (3 : Nat) w1_1 (Addr.mk b_1 (0 : Nat) none) (Value.int IntKind.i64 i) ∧
  br (decide (i = (0 : Int)))
  (∃ (s : ByteArray),
  Ld Go.Proofs.Try.prog (9 : Nat) w1_1 (Addr.mk b_1 (2 : Nat) none) (Value.string s) ∧
  CallV Go.Proofs.Try.prog (67 : Nat) [Value.string s] w1_1 fun (e : Ending) (w' : World) ↦ ∃ (b : Bool), e = Ending.returned (Value.bool b) ∧ J (!b) w')
  (J false w1_1))
theorem rwhy.eq (d_Room : Int) (d_Filesa : Option Addr) (d_Filesn : Nat) (d_Filesc : Nat) (d_Namesa : Option Addr) (d_Namesn : Nat) (d_Namesc : Nat) (d_Firma : Option Addr) (d_Firmn : Nat) (d_Firmc : Nat) (d_Sincea : Option Addr) (d_Sincen : Nat) (d_Sincec : Nat) (d_Armed : Int) (d_Denied : Int) (d_Dead : Bool) (o_Kind : Int) (o_N : Int) (o_Name : ByteArray) (o_To : ByteArray) (o_Ba : Option Addr) (o_Bn : Nat) (o_Bc : Nat) (o_Picksa : Option Addr) (o_Picksn : Nat) (o_Picksc : Nat) (w : World) (R : Ending → World → Prop) : bodyV Go.Proofs.Try.prog rwhy.an Go.Proofs.Try.f49 [.agg #[.int .i64 d_Room, .slice d_Filesa d_Filesn d_Filesc, .slice d_Namesa d_Namesn d_Namesc, .slice d_Firma d_Firmn d_Firmc, .slice d_Sincea d_Sincen d_Sincec, .int .i64 d_Armed, .int .i64 d_Denied, .bool d_Dead], .agg #[.int .i64 o_Kind, .int .i64 o_N, .string o_Name, .string o_To, .slice o_Ba o_Bn o_Bc, .slice o_Picksa o_Picksn o_Picksc]] w R = rwhy.vc d_Room d_Filesa d_Filesn d_Filesc d_Namesa d_Namesn d_Namesc d_Firma d_Firmn d_Firmc d_Sincea d_Sincen d_Sincec d_Armed d_Denied d_Dead o_Kind o_N o_Name o_To o_Ba o_Bn o_Bc o_Picksa o_Picksn o_Picksc w R := by kernel_rfl
theorem rwhy.ok (d_Room : Int) (d_Filesa : Option Addr) (d_Filesn : Nat) (d_Filesc : Nat) (d_Namesa : Option Addr) (d_Namesn : Nat) (d_Namesc : Nat) (d_Firma : Option Addr) (d_Firmn : Nat) (d_Firmc : Nat) (d_Sincea : Option Addr) (d_Sincen : Nat) (d_Sincec : Nat) (d_Armed : Int) (d_Denied : Int) (d_Dead : Bool) (o_Kind : Int) (o_N : Int) (o_Name : ByteArray) (o_To : ByteArray) (o_Ba : Option Addr) (o_Bn : Nat) (o_Bc : Nat) (o_Picksa : Option Addr) (o_Picksn : Nat) (o_Picksc : Nat) (w : World) (R : Ending → World → Prop) (h : rwhy.vc d_Room d_Filesa d_Filesn d_Filesc d_Namesa d_Namesn d_Namesc d_Firma d_Firmn d_Firmc d_Sincea d_Sincen d_Sincec d_Armed d_Denied d_Dead o_Kind o_N o_Name o_To o_Ba o_Bn o_Bc o_Picksa o_Picksn o_Picksc w R) : Calls Go.Proofs.Try.prog 49 #[.agg #[.int .i64 d_Room, .slice d_Filesa d_Filesn d_Filesc, .slice d_Namesa d_Namesn d_Namesc, .slice d_Firma d_Firmn d_Firmc, .slice d_Sincea d_Sincen d_Sincec, .int .i64 d_Armed, .int .i64 d_Denied, .bool d_Dead], .agg #[.int .i64 o_Kind, .int .i64 o_N, .string o_Name, .string o_To, .slice o_Ba o_Bn o_Bc, .slice o_Picksa o_Picksn o_Picksc]] w R :=
  calls_of_bodyV noNum (an := rwhy.an) (args := [.agg #[.int .i64 d_Room, .slice d_Filesa d_Filesn d_Filesc, .slice d_Namesa d_Namesn d_Namesc, .slice d_Firma d_Firmn d_Firmc, .slice d_Sincea d_Sincen d_Sincec, .int .i64 d_Armed, .int .i64 d_Denied, .bool d_Dead], .agg #[.int .i64 o_Kind, .int .i64 o_N, .string o_Name, .string o_To, .slice o_Ba o_Bn o_Bc, .slice o_Picksa o_Picksn o_Picksc]]) Go.Proofs.Try.func49 (by kernel_rfl) ((rwhy.eq d_Room d_Filesa d_Filesn d_Filesc d_Namesa d_Namesn d_Namesc d_Firma d_Firmn d_Firmc d_Sincea d_Sincen d_Sincec d_Armed d_Denied d_Dead o_Kind o_N o_Name o_To o_Ba o_Bn o_Bc o_Picksa o_Picksn o_Picksc w R).mpr h)

/-- incunable/incunableref09.find -/
def rfind.an : An := { wraps := [], loops := [(2, [(5, .inl .i64)])], joins := [], ranges := [] }
def rfind.vc (la : Option Addr) (ln : Nat) (lc : Nat) (name : ByteArray) (w : World) (R : Ending → World → Prop) : Prop :=
  LoopP
  (fun (s : Int) (w' : World) (next : Int → World → Prop) ↦
  br (decide (s < (↑ln : Int)))
  (onP la fun (a : Addr) ↦
  ((0 : Int) ≤ s ∧ s < (↑ln : Int)) ∧
  ∃ (s_1 : ByteArray),
  Ld Go.Proofs.Try.prog (9 : Nat) w' (Addr.add a (Int.toNat s * (2 : Nat))) (Value.string s_1) ∧
  br (decide (s_1 = name))
  (onP la fun (a : Addr) ↦
  ((0 : Int) ≤ s ∧ s < (↑ln : Int)) ∧
  ∃ (i : Int),
  Ld Go.Proofs.Try.prog (3 : Nat) w' (Addr.add (Addr.add a (Int.toNat s * (2 : Nat))) (1 : Nat)) (Value.int IntKind.i64 i) ∧ R (Ending.returned (Value.int IntKind.i64 i)) w')
  (inR IntKind.i64 (s + (1 : Int)) ∧ next (s + (1 : Int)) w'))
  (R (Ending.returned (Value.int IntKind.i64 (-1 : Int))) w'))
  (0 : Int) w
theorem rfind.eq (la : Option Addr) (ln : Nat) (lc : Nat) (name : ByteArray) (w : World) (R : Ending → World → Prop) : bodyV Go.Proofs.Try.prog rfind.an Go.Proofs.Try.f50 [.slice la ln lc, .string name] w R = rfind.vc la ln lc name w R := by kernel_rfl
theorem rfind.ok (la : Option Addr) (ln : Nat) (lc : Nat) (name : ByteArray) (w : World) (R : Ending → World → Prop) (h : rfind.vc la ln lc name w R) : Calls Go.Proofs.Try.prog 50 #[.slice la ln lc, .string name] w R :=
  calls_of_bodyV noNum (an := rfind.an) (args := [.slice la ln lc, .string name]) Go.Proofs.Try.func50 (by kernel_rfl) ((rfind.eq la ln lc name w R).mpr h)

/-- incunable/incunableref09.does -/
def rdoes.an : An := { wraps := [], loops := [], joins := [], ranges := [] }
def rdoes.vc (d_Room : Int) (d_Filesa : Option Addr) (d_Filesn : Nat) (d_Filesc : Nat) (d_Namesa : Option Addr) (d_Namesn : Nat) (d_Namesc : Nat) (d_Firma : Option Addr) (d_Firmn : Nat) (d_Firmc : Nat) (d_Sincea : Option Addr) (d_Sincen : Nat) (d_Sincec : Nat) (d_Armed : Int) (d_Denied : Int) (d_Dead : Bool) (o_Kind : Int) (o_N : Int) (o_Name : ByteArray) (o_To : ByteArray) (o_Ba : Option Addr) (o_Bn : Nat) (o_Bc : Nat) (o_Picksa : Option Addr) (o_Picksn : Nat) (o_Picksc : Nat) (w : World) (R : Ending → World → Prop) : Prop :=
  ∀ (b : Nat) (w1 : World),
  New w
  (Obj.cells
  #[Value.int IntKind.i64 d_Room, Value.slice d_Filesa d_Filesn d_Filesc, Value.slice d_Namesa d_Namesn d_Namesc, Value.slice d_Firma d_Firmn d_Firmc, Value.slice d_Sincea d_Sincen d_Sincec,
  Value.int IntKind.i64 d_Armed, Value.int IntKind.i64 d_Denied, Value.bool d_Dead]
  (44 : Nat))
  b w1 →
  ∀ (b_1 : Nat) (w1_1 : World),
  New w1
  (Obj.cells #[Value.int IntKind.i64 o_Kind, Value.int IntKind.i64 o_N, Value.string o_Name, Value.string o_To, Value.slice o_Ba o_Bn o_Bc, Value.slice o_Picksa o_Picksn o_Picksc] (49 : Nat))
  b_1 w1_1 →
  ∀ (b_2 : Nat) (w1 : World),
  New w1_1
  (Obj.cells
  #[Value.int IntKind.i64 (0 : Int), Value.slice none (0 : Nat) (0 : Nat), Value.slice none (0 : Nat) (0 : Nat), Value.slice none (0 : Nat) (0 : Nat),
  Value.slice none (0 : Nat) (0 : Nat), Value.int IntKind.i64 (0 : Int), Value.int IntKind.i64 (0 : Int), Value.bool false]
  (44 : Nat))
  b_2 w1 →
  ∃ (i : Int),
  Ld Go.Proofs.Try.prog (3 : Nat) w1 (Addr.mk b_1 (0 : Nat) none) (Value.int IntKind.i64 i) ∧
  br (decide (i = (0 : Int)))
  (∀ (b_3 : Nat) (w1_2 : World),
  New w1 (Obj.cells #[] (106 : Nat)) b_3 w1_2 →
  ∃ (a : Option Addr),
  ∃ (l : Nat),
  ∃ (c : Nat),
  Ld Go.Proofs.Try.prog (40 : Nat) w1_2 (Addr.mk b (1 : Nat) none) (Value.slice a l c) ∧
  ∃ (a_1 : Option Addr),
  ∃ (n : Nat),
  ∃ (m : Nat),
  ∃ (w1 : World),
  App Go.Proofs.Try.prog #[(40 : Nat), (40 : Nat)] (40 : Nat) w1_2 (Value.slice (some (Addr.mk b_3 (0 : Nat) none)) (0 : Nat) (0 : Nat)) (Value.slice a l c)
  (Value.slice a_1 n m) w1 ∧
  ∀ (b_4 : Nat) (w1_3 : World),
  New w1 (Obj.cells #[Value.slice none (0 : Nat) (0 : Nat), Value.slice none (0 : Nat) (0 : Nat), Value.slice none (0 : Nat) (0 : Nat)] (106 : Nat)) b_4 w1_3 →
  ∃ (a : Option Addr),
  ∃ (n_1 : Nat),
  ∃ (m_1 : Nat),
  ∃ (w1 : World),
  App Go.Proofs.Try.prog #[(40 : Nat), (40 : Nat)] (40 : Nat) w1_3 (Value.slice a_1 n m)
  (Value.slice (some (Addr.mk b_4 (0 : Nat) none)) (1 : Nat) (1 : Nat)) (Value.slice a n_1 m_1) w1 ∧
  ∃ (w1_4 : World),
  St Go.Proofs.Try.prog (40 : Nat) w1 (Addr.mk b (1 : Nat) none) (Value.slice a n_1 m_1) w1_4 ∧
  ∃ (i : Int),
  ∃ (a : Option Addr),
  ∃ (l : Nat),
  ∃ (c : Nat),
  ∃ (a_2 : Option Addr),
  ∃ (l_1 : Nat),
  ∃ (c_1 : Nat),
  ∃ (a_3 : Option Addr),
  ∃ (l_2 : Nat),
  ∃ (c_2 : Nat),
  ∃ (a_4 : Option Addr),
  ∃ (l_3 : Nat),
  ∃ (c_3 : Nat),
  ∃ (i_1 : Int),
  ∃ (i_2 : Int),
  ∃ (b_5 : Bool),
  Ld Go.Proofs.Try.prog (44 : Nat) (World.drew w1_4) (Addr.mk b (0 : Nat) none)
  (Value.agg
  #[Value.int IntKind.i64 i, Value.slice a l c, Value.slice a_2 l_1 c_1, Value.slice a_3 l_2 c_2,
  Value.slice a_4 l_3 c_3, Value.int IntKind.i64 i_1, Value.int IntKind.i64 i_2, Value.bool b_5]) ∧
  ∃ (a_5 : Option Addr),
  ∃ (l_4 : Nat),
  ∃ (c_4 : Nat),
  Ld Go.Proofs.Try.prog (41 : Nat) (World.drew w1_4) (Addr.mk b (2 : Nat) none) (Value.slice a_5 l_4 c_4) ∧
  ∃ (s : ByteArray),
  Ld Go.Proofs.Try.prog (9 : Nat) (World.drew w1_4) (Addr.mk b_1 (2 : Nat) none) (Value.string s) ∧
  ∃ (a_6 : Option Addr),
  ∃ (l_5 : Nat),
  ∃ (c_5 : Nat),
  Ld Go.Proofs.Try.prog (40 : Nat) (World.drew w1_4) (Addr.mk b (1 : Nat) none)
  (Value.slice a_6 l_5 c_5) ∧
  inR IntKind.i64 ((↑l_5 : Int) - (1 : Int)) ∧
  CallV Go.Proofs.Try.prog (71 : Nat)
  [Value.slice a_5 l_4 c_4,
  Value.agg #[Value.string s, Value.int IntKind.i64 ((↑l_5 : Int) - (1 : Int))]]
  (World.drew w1_4) fun (e : Ending) (w' : World) ↦
  ∃ (a_7 : Option Addr),
  ∃ (l_6 : Nat),
  ∃ (c_6 : Nat),
  e = Ending.returned (Value.slice a_7 l_6 c_6) ∧
  Ld Go.Proofs.Try.prog (44 : Nat) w' (Addr.mk b (0 : Nat) none)
  (Value.agg
  #[Value.int IntKind.i64 i, Value.slice a l c, Value.slice a_2 l_1 c_1,
  Value.slice a_3 l_2 c_2, Value.slice a_4 l_3 c_3,
  Value.int IntKind.i64 i_1, Value.int IntKind.i64 i_2,
  Value.bool b_5]) ∧
  CallV Go.Proofs.Try.prog (70 : Nat)
  [Value.agg
  #[Value.int IntKind.i64 i, Value.slice a l c,
  Value.slice a_2 l_1 c_1, Value.slice a_3 l_2 c_2,
  Value.slice a_4 l_3 c_3, Value.int IntKind.i64 i_1,
  Value.int IntKind.i64 i_2, Value.bool b_5],
  Value.slice a_7 l_6 c_6]
  w' fun (e : Ending) (w' : World) ↦
  ∃ (i : Int),
  ∃ (a : Option Addr),
  ∃ (l : Nat),
  ∃ (c : Nat),
  ∃ (a_8 : Option Addr),
  ∃ (l_7 : Nat),
  ∃ (c_7 : Nat),
  ∃ (a_9 : Option Addr),
  ∃ (l_8 : Nat),
  ∃ (c_8 : Nat),
  ∃ (a_10 : Option Addr),
  ∃ (l_9 : Nat),
  ∃ (c_9 : Nat),
  ∃ (i_3 : Int),
  ∃ (i_4 : Int),
  ∃ (b : Bool),
  e =
  Ending.returned
  (Value.agg
  #[Value.int IntKind.i64 i,
  Value.slice a l c,
  Value.slice a_8 l_7 c_7,
  Value.slice a_9 l_8 c_8,
  Value.slice a_10 l_9 c_9,
  Value.int IntKind.i64 i_3,
  Value.int IntKind.i64 i_4,
  Value.bool b]) ∧
  ∃ (w1 : World),
  St Go.Proofs.Try.prog (44 : Nat) w'
  (Addr.mk b_2 (0 : Nat) none)
  (Value.agg
  #[Value.int IntKind.i64 i,
  Value.slice a l c,
  Value.slice a_8 l_7 c_7,
  Value.slice a_9 l_8 c_8,
  Value.slice a_10 l_9 c_9,
  Value.int IntKind.i64 i_3,
  Value.int IntKind.i64 i_4,
  Value.bool b])
  w1 ∧
  ∃ (i : Int),
  ∃ (a : Option Addr),
  ∃ (l : Nat),
  ∃ (c : Nat),
  ∃ (a_11 : Option Addr),
  ∃ (l_10 : Nat),
  ∃ (c_10 : Nat),
  ∃ (a_12 :
  Option Addr),
  ∃ (l_11 : Nat),
  ∃ (c_11 : Nat),
  ∃ (a_13 :
  Option
  Addr),
  ∃ (l_12 :
  Nat),
  ∃ (c_12 :
  Nat),
  ∃ (i_5 :
  Int),
  ∃ (i_6
  :
  Int),
  ∃ (b
  :
  Bool),
  Ld
  Go.Proofs.Try.prog
  (44 :
  Nat)
  w1
  (Addr.mk
  b_2
  (0 :
  Nat)
  none)
  (Value.agg
  #[Value.int
  IntKind.i64
  i,
  Value.slice
  a
  l
  c,
  Value.slice
  a_11
  l_10
  c_10,
  Value.slice
  a_12
  l_11
  c_11,
  Value.slice
  a_13
  l_12
  c_12,
  Value.int
  IntKind.i64
  i_5,
  Value.int
  IntKind.i64
  i_6,
  Value.bool
  b]) ∧
  R
  (Ending.returned
  (Value.agg
  #[Value.int
  IntKind.i64
  i,
  Value.slice
  a
  l
  c,
  Value.slice
  a_11
  l_10
  c_10,
  Value.slice
  a_12
  l_11
  c_11,
  Value.slice
  a_13
  l_12
  c_12,
  Value.int
  IntKind.i64
  i_5,
  Value.int
  IntKind.i64
  i_6,
  Value.bool
  b]))
  w1)
  (br (decide (i = (1 : Int)))
  (∃ (i : Int),
  ∃ (a : Option Addr),
  ∃ (l : Nat),
  ∃ (c : Nat),
  ∃ (a_1 : Option Addr),
  ∃ (l_1 : Nat),
  ∃ (c_1 : Nat),
  ∃ (a_2 : Option Addr),
  ∃ (l_2 : Nat),
  ∃ (c_2 : Nat),
  ∃ (a_3 : Option Addr),
  ∃ (l_3 : Nat),
  ∃ (c_3 : Nat),
  ∃ (i_1 : Int),
  ∃ (i_2 : Int),
  ∃ (b_3 : Bool),
  Ld Go.Proofs.Try.prog (44 : Nat) w1 (Addr.mk b (0 : Nat) none)
  (Value.agg
  #[Value.int IntKind.i64 i, Value.slice a l c, Value.slice a_1 l_1 c_1, Value.slice a_2 l_2 c_2, Value.slice a_3 l_3 c_3,
  Value.int IntKind.i64 i_1, Value.int IntKind.i64 i_2, Value.bool b_3]) ∧
  ∃ (i_3 : Int),
  ∃ (i_4 : Int),
  ∃ (s : ByteArray),
  ∃ (s_1 : ByteArray),
  ∃ (a_4 : Option Addr),
  ∃ (l_4 : Nat),
  ∃ (c_4 : Nat),
  ∃ (a_5 : Option Addr),
  ∃ (l_5 : Nat),
  ∃ (c_5 : Nat),
  Ld Go.Proofs.Try.prog (49 : Nat) w1 (Addr.mk b_1 (0 : Nat) none)
  (Value.agg
  #[Value.int IntKind.i64 i_3, Value.int IntKind.i64 i_4, Value.string s, Value.string s_1, Value.slice a_4 l_4 c_4,
  Value.slice a_5 l_5 c_5]) ∧
  CallV Go.Proofs.Try.prog (72 : Nat)
  [Value.agg
  #[Value.int IntKind.i64 i, Value.slice a l c, Value.slice a_1 l_1 c_1, Value.slice a_2 l_2 c_2,
  Value.slice a_3 l_3 c_3, Value.int IntKind.i64 i_1, Value.int IntKind.i64 i_2, Value.bool b_3],
  Value.agg
  #[Value.int IntKind.i64 i_3, Value.int IntKind.i64 i_4, Value.string s, Value.string s_1, Value.slice a_4 l_4 c_4,
  Value.slice a_5 l_5 c_5]]
  w1 fun (e : Ending) (w' : World) ↦
  ∃ (i : Int),
  ∃ (a : Option Addr),
  ∃ (l : Nat),
  ∃ (c : Nat),
  ∃ (a_6 : Option Addr),
  ∃ (l_6 : Nat),
  ∃ (c_6 : Nat),
  ∃ (a_7 : Option Addr),
  ∃ (l_7 : Nat),
  ∃ (c_7 : Nat),
  ∃ (a_8 : Option Addr),
  ∃ (l_8 : Nat),
  ∃ (c_8 : Nat),
  ∃ (i_5 : Int),
  ∃ (i_6 : Int),
  ∃ (b : Bool),
  e =
  Ending.returned
  (Value.agg
  #[Value.int IntKind.i64 i, Value.slice a l c, Value.slice a_6 l_6 c_6,
  Value.slice a_7 l_7 c_7, Value.slice a_8 l_8 c_8, Value.int IntKind.i64 i_5,
  Value.int IntKind.i64 i_6, Value.bool b]) ∧
  ∃ (w1 : World),
  St Go.Proofs.Try.prog (44 : Nat) w' (Addr.mk b_2 (0 : Nat) none)
  (Value.agg
  #[Value.int IntKind.i64 i, Value.slice a l c, Value.slice a_6 l_6 c_6,
  Value.slice a_7 l_7 c_7, Value.slice a_8 l_8 c_8, Value.int IntKind.i64 i_5,
  Value.int IntKind.i64 i_6, Value.bool b])
  w1 ∧
  ∃ (i : Int),
  ∃ (a : Option Addr),
  ∃ (l : Nat),
  ∃ (c : Nat),
  ∃ (a_9 : Option Addr),
  ∃ (l_9 : Nat),
  ∃ (c_9 : Nat),
  ∃ (a_10 : Option Addr),
  ∃ (l_10 : Nat),
  ∃ (c_10 : Nat),
  ∃ (a_11 : Option Addr),
  ∃ (l_11 : Nat),
  ∃ (c_11 : Nat),
  ∃ (i_7 : Int),
  ∃ (i_8 : Int),
  ∃ (b : Bool),
  Ld Go.Proofs.Try.prog (44 : Nat) w1
  (Addr.mk b_2 (0 : Nat) none)
  (Value.agg
  #[Value.int IntKind.i64 i, Value.slice a l c,
  Value.slice a_9 l_9 c_9,
  Value.slice a_10 l_10 c_10,
  Value.slice a_11 l_11 c_11,
  Value.int IntKind.i64 i_7,
  Value.int IntKind.i64 i_8, Value.bool b]) ∧
  R
  (Ending.returned
  (Value.agg
  #[Value.int IntKind.i64 i,
  Value.slice a l c,
  Value.slice a_9 l_9 c_9,
  Value.slice a_10 l_10 c_10,
  Value.slice a_11 l_11 c_11,
  Value.int IntKind.i64 i_7,
  Value.int IntKind.i64 i_8, Value.bool b]))
  w1)
  (br (decide (i = (3 : Int)))
  (∃ (a : Option Addr),
  ∃ (l : Nat),
  ∃ (c : Nat),
  Ld Go.Proofs.Try.prog (41 : Nat) w1 (Addr.mk b (2 : Nat) none) (Value.slice a l c) ∧
  ∃ (s : ByteArray),
  Ld Go.Proofs.Try.prog (9 : Nat) w1 (Addr.mk b_1 (2 : Nat) none) (Value.string s) ∧
  CallV Go.Proofs.Try.prog (50 : Nat) [Value.slice a l c, Value.string s] w1 fun (e : Ending) (w' : World) ↦
  ∃ (i : Int),
  e = Ending.returned (Value.int IntKind.i64 i) ∧
  ∀ (b_3 : Nat) (w1 : World),
  New w' (Obj.cells #[] (106 : Nat)) b_3 w1 →
  ∃ (a : Option Addr),
  ∃ (l : Nat),
  ∃ (c : Nat),
  Ld Go.Proofs.Try.prog (40 : Nat) w1 (Addr.mk b (1 : Nat) none) (Value.slice a l c) ∧
  ∃ (a_1 : Option Addr),
  ∃ (n : Nat),
  ∃ (m : Nat),
  ∃ (w1_2 : World),
  App Go.Proofs.Try.prog #[(40 : Nat), (40 : Nat)] (40 : Nat) w1 (Value.slice (some (Addr.mk b_3 (0 : Nat) none)) (0 : Nat) (0 : Nat))
  (Value.slice a l c) (Value.slice a_1 n m) w1_2 ∧
  onP a_1 fun (a : Addr) ↦
  ((0 : Int) ≤ i ∧ i < (↑n : Int)) ∧
  ∃ (a_2 : Option Addr),
  ∃ (l : Nat),
  ∃ (c : Nat),
  Ld Go.Proofs.Try.prog (33 : Nat) (World.drew w1_2) (Addr.add a (Int.toNat i * (3 : Nat))) (Value.slice a_2 l c) ∧
  onP a_1 fun (a : Addr) ↦
  ((0 : Int) ≤ i ∧ i < (↑n : Int)) ∧
  ∃ (a_3 : Option Addr),
  ∃ (l_1 : Nat),
  ∃ (c_1 : Nat),
  Ld Go.Proofs.Try.prog (33 : Nat) (World.drew w1_2) (Addr.add a (Int.toNat i * (3 : Nat))) (Value.slice a_3 l_1 c_1) ∧
  onP a_1 fun (a : Addr) ↦
  ((0 : Int) ≤ i ∧ i < (↑n : Int)) ∧
  ∃ (w1 : World),
  St Go.Proofs.Try.prog (106 : Nat) (World.drew w1_2) (Addr.add a (Int.toNat i * (3 : Nat)))
  (Value.agg #[Value.slice a_2 l c, Value.slice a_3 l_1 c_1, Value.slice none (0 : Nat) (0 : Nat)]) w1 ∧
  ∃ (w1_3 : World),
  St Go.Proofs.Try.prog (40 : Nat) w1 (Addr.mk b (1 : Nat) none) (Value.slice a_1 n m) w1_3 ∧
  ∃ (i : Int),
  ∃ (a : Option Addr),
  ∃ (l : Nat),
  ∃ (c : Nat),
  ∃ (a_4 : Option Addr),
  ∃ (l_2 : Nat),
  ∃ (c_2 : Nat),
  ∃ (a_5 : Option Addr),
  ∃ (l_3 : Nat),
  ∃ (c_3 : Nat),
  ∃ (a_6 : Option Addr),
  ∃ (l_4 : Nat),
  ∃ (c_4 : Nat),
  ∃ (i_1 : Int),
  ∃ (i_2 : Int),
  ∃ (b_4 : Bool),
  Ld Go.Proofs.Try.prog (44 : Nat) w1_3 (Addr.mk b (0 : Nat) none)
  (Value.agg
  #[Value.int IntKind.i64 i, Value.slice a l c,
  Value.slice a_4 l_2 c_2, Value.slice a_5 l_3 c_3,
  Value.slice a_6 l_4 c_4, Value.int IntKind.i64 i_1,
  Value.int IntKind.i64 i_2, Value.bool b_4]) ∧
  ∃ (w1 : World),
  St Go.Proofs.Try.prog (44 : Nat) w1_3 (Addr.mk b_2 (0 : Nat) none)
  (Value.agg
  #[Value.int IntKind.i64 i, Value.slice a l c,
  Value.slice a_4 l_2 c_2, Value.slice a_5 l_3 c_3,
  Value.slice a_6 l_4 c_4, Value.int IntKind.i64 i_1,
  Value.int IntKind.i64 i_2, Value.bool b_4])
  w1 ∧
  ∃ (i : Int),
  ∃ (a : Option Addr),
  ∃ (l : Nat),
  ∃ (c : Nat),
  ∃ (a_7 : Option Addr),
  ∃ (l_5 : Nat),
  ∃ (c_5 : Nat),
  ∃ (a_8 : Option Addr),
  ∃ (l_6 : Nat),
  ∃ (c_6 : Nat),
  ∃ (a_9 : Option Addr),
  ∃ (l_7 : Nat),
  ∃ (c_7 : Nat),
  ∃ (i_3 : Int),
  ∃ (i_4 : Int),
  ∃ (b : Bool),
  Ld Go.Proofs.Try.prog (44 : Nat) w1
  (Addr.mk b_2 (0 : Nat) none)
  (Value.agg
  #[Value.int IntKind.i64 i,
  Value.slice a l c,
  Value.slice a_7 l_5 c_5,
  Value.slice a_8 l_6 c_6,
  Value.slice a_9 l_7 c_7,
  Value.int IntKind.i64
  i_3,
  Value.int IntKind.i64
  i_4,
  Value.bool b]) ∧
  R
  (Ending.returned
  (Value.agg
  #[Value.int IntKind.i64
  i,
  Value.slice a l c,
  Value.slice a_7 l_5
  c_5,
  Value.slice a_8 l_6
  c_6,
  Value.slice a_9 l_7
  c_7,
  Value.int IntKind.i64
  i_3,
  Value.int IntKind.i64
  i_4,
  Value.bool b]))
  w1)
  (br (decide (i = (4 : Int)))
  (∃ (a : Option Addr),
  ∃ (l : Nat),
  ∃ (c : Nat),
  Ld Go.Proofs.Try.prog (41 : Nat) w1 (Addr.mk b (2 : Nat) none) (Value.slice a l c) ∧
  ∃ (s : ByteArray),
  Ld Go.Proofs.Try.prog (9 : Nat) w1 (Addr.mk b_1 (2 : Nat) none) (Value.string s) ∧
  CallV Go.Proofs.Try.prog (50 : Nat) [Value.slice a l c, Value.string s] w1 fun (e : Ending) (w' : World) ↦
  ∃ (i : Int),
  e = Ending.returned (Value.int IntKind.i64 i) ∧
  ∃ (i_1 : Int),
  ∃ (a : Option Addr),
  ∃ (l : Nat),
  ∃ (c : Nat),
  ∃ (a_1 : Option Addr),
  ∃ (l_1 : Nat),
  ∃ (c_1 : Nat),
  ∃ (a_2 : Option Addr),
  ∃ (l_2 : Nat),
  ∃ (c_2 : Nat),
  ∃ (a_3 : Option Addr),
  ∃ (l_3 : Nat),
  ∃ (c_3 : Nat),
  ∃ (i_2 : Int),
  ∃ (i_3 : Int),
  ∃ (b_3 : Bool),
  Ld Go.Proofs.Try.prog (44 : Nat) (World.drew w') (Addr.mk b (0 : Nat) none)
  (Value.agg
  #[Value.int IntKind.i64 i_1, Value.slice a l c, Value.slice a_1 l_1 c_1, Value.slice a_2 l_2 c_2,
  Value.slice a_3 l_3 c_3, Value.int IntKind.i64 i_2, Value.int IntKind.i64 i_3, Value.bool b_3]) ∧
  ∃ (a_4 : Option Addr),
  ∃ (l_4 : Nat),
  ∃ (c_4 : Nat),
  Ld Go.Proofs.Try.prog (41 : Nat) (World.drew w') (Addr.mk b (2 : Nat) none) (Value.slice a_4 l_4 c_4) ∧
  ∃ (s : ByteArray),
  Ld Go.Proofs.Try.prog (9 : Nat) (World.drew w') (Addr.mk b_1 (2 : Nat) none) (Value.string s) ∧
  ∃ (s_1 : ByteArray),
  Ld Go.Proofs.Try.prog (9 : Nat) (World.drew w') (Addr.mk b_1 (3 : Nat) none) (Value.string s_1) ∧
  CallV Go.Proofs.Try.prog (73 : Nat) [Value.slice a_4 l_4 c_4, Value.string s] (World.drew w')
  fun (e : Ending) (w' : World) ↦
  ∃ (a_5 : Option Addr),
  ∃ (l_5 : Nat),
  ∃ (c_5 : Nat),
  e = Ending.returned (Value.slice a_5 l_5 c_5) ∧
  Ld Go.Proofs.Try.prog (9 : Nat) w' (Addr.mk b_1 (3 : Nat) none) (Value.string s_1) ∧
  Ld Go.Proofs.Try.prog (44 : Nat) w' (Addr.mk b (0 : Nat) none)
  (Value.agg
  #[Value.int IntKind.i64 i_1, Value.slice a l c, Value.slice a_1 l_1 c_1,
  Value.slice a_2 l_2 c_2, Value.slice a_3 l_3 c_3, Value.int IntKind.i64 i_2,
  Value.int IntKind.i64 i_3, Value.bool b_3]) ∧
  CallV Go.Proofs.Try.prog (71 : Nat)
  [Value.slice a_5 l_5 c_5, Value.agg #[Value.string s_1, Value.int IntKind.i64 i]] w'
  fun (e : Ending) (w' : World) ↦
  ∃ (a_6 : Option Addr),
  ∃ (l_6 : Nat),
  ∃ (c_6 : Nat),
  e = Ending.returned (Value.slice a_6 l_6 c_6) ∧
  Ld Go.Proofs.Try.prog (44 : Nat) w' (Addr.mk b (0 : Nat) none)
  (Value.agg
  #[Value.int IntKind.i64 i_1, Value.slice a l c, Value.slice a_1 l_1 c_1,
  Value.slice a_2 l_2 c_2, Value.slice a_3 l_3 c_3, Value.int IntKind.i64 i_2,
  Value.int IntKind.i64 i_3, Value.bool b_3]) ∧
  CallV Go.Proofs.Try.prog (70 : Nat)
  [Value.agg
  #[Value.int IntKind.i64 i_1, Value.slice a l c, Value.slice a_1 l_1 c_1,
  Value.slice a_2 l_2 c_2, Value.slice a_3 l_3 c_3,
  Value.int IntKind.i64 i_2, Value.int IntKind.i64 i_3, Value.bool b_3],
  Value.slice a_6 l_6 c_6]
  w' fun (e : Ending) (w' : World) ↦
  ∃ (i : Int),
  ∃ (a : Option Addr),
  ∃ (l : Nat),
  ∃ (c : Nat),
  ∃ (a_7 : Option Addr),
  ∃ (l_7 : Nat),
  ∃ (c_7 : Nat),
  ∃ (a_8 : Option Addr),
  ∃ (l_8 : Nat),
  ∃ (c_8 : Nat),
  ∃ (a_9 : Option Addr),
  ∃ (l_9 : Nat),
  ∃ (c_9 : Nat),
  ∃ (i_4 : Int),
  ∃ (i_5 : Int),
  ∃ (b : Bool),
  e =
  Ending.returned
  (Value.agg
  #[Value.int IntKind.i64 i,
  Value.slice a l c,
  Value.slice a_7 l_7 c_7,
  Value.slice a_8 l_8 c_8,
  Value.slice a_9 l_9 c_9,
  Value.int IntKind.i64 i_4,
  Value.int IntKind.i64 i_5,
  Value.bool b]) ∧
  ∃ (w1 : World),
  St Go.Proofs.Try.prog (44 : Nat) w'
  (Addr.mk b_2 (0 : Nat) none)
  (Value.agg
  #[Value.int IntKind.i64 i,
  Value.slice a l c,
  Value.slice a_7 l_7 c_7,
  Value.slice a_8 l_8 c_8,
  Value.slice a_9 l_9 c_9,
  Value.int IntKind.i64 i_4,
  Value.int IntKind.i64 i_5,
  Value.bool b])
  w1 ∧
  ∃ (i : Int),
  ∃ (a : Option Addr),
  ∃ (l : Nat),
  ∃ (c : Nat),
  ∃ (a_10 : Option Addr),
  ∃ (l_10 : Nat),
  ∃ (c_10 : Nat),
  ∃ (a_11 : Option Addr),
  ∃ (l_11 : Nat),
  ∃ (c_11 : Nat),
  ∃ (a_12 :
  Option Addr),
  ∃ (l_12 : Nat),
  ∃ (c_12 : Nat),
  ∃ (i_6 : Int),
  ∃ (i_7 : Int),
  ∃ (b :
  Bool),
  Ld
  Go.Proofs.Try.prog
  (44 :
  Nat)
  w1
  (Addr.mk
  b_2
  (0 :
  Nat)
  none)
  (Value.agg
  #[Value.int
  IntKind.i64
  i,
  Value.slice
  a
  l
  c,
  Value.slice
  a_10
  l_10
  c_10,
  Value.slice
  a_11
  l_11
  c_11,
  Value.slice
  a_12
  l_12
  c_12,
  Value.int
  IntKind.i64
  i_6,
  Value.int
  IntKind.i64
  i_7,
  Value.bool
  b]) ∧
  R
  (Ending.returned
  (Value.agg
  #[Value.int
  IntKind.i64
  i,
  Value.slice
  a
  l
  c,
  Value.slice
  a_10
  l_10
  c_10,
  Value.slice
  a_11
  l_11
  c_11,
  Value.slice
  a_12
  l_12
  c_12,
  Value.int
  IntKind.i64
  i_6,
  Value.int
  IntKind.i64
  i_7,
  Value.bool
  b]))
  w1)
  (br (decide (i = (5 : Int)))
  (∃ (i : Int),
  ∃ (a : Option Addr),
  ∃ (l : Nat),
  ∃ (c : Nat),
  ∃ (a_1 : Option Addr),
  ∃ (l_1 : Nat),
  ∃ (c_1 : Nat),
  ∃ (a_2 : Option Addr),
  ∃ (l_2 : Nat),
  ∃ (c_2 : Nat),
  ∃ (a_3 : Option Addr),
  ∃ (l_3 : Nat),
  ∃ (c_3 : Nat),
  ∃ (i_1 : Int),
  ∃ (i_2 : Int),
  ∃ (b_3 : Bool),
  Ld Go.Proofs.Try.prog (44 : Nat) (World.drew w1) (Addr.mk b (0 : Nat) none)
  (Value.agg
  #[Value.int IntKind.i64 i, Value.slice a l c, Value.slice a_1 l_1 c_1, Value.slice a_2 l_2 c_2, Value.slice a_3 l_3 c_3,
  Value.int IntKind.i64 i_1, Value.int IntKind.i64 i_2, Value.bool b_3]) ∧
  ∃ (a_4 : Option Addr),
  ∃ (l_4 : Nat),
  ∃ (c_4 : Nat),
  Ld Go.Proofs.Try.prog (41 : Nat) (World.drew w1) (Addr.mk b (2 : Nat) none) (Value.slice a_4 l_4 c_4) ∧
  ∃ (s : ByteArray),
  Ld Go.Proofs.Try.prog (9 : Nat) (World.drew w1) (Addr.mk b_1 (2 : Nat) none) (Value.string s) ∧
  CallV Go.Proofs.Try.prog (73 : Nat) [Value.slice a_4 l_4 c_4, Value.string s] (World.drew w1) fun (e : Ending) (w' : World) ↦
  ∃ (a_5 : Option Addr),
  ∃ (l_5 : Nat),
  ∃ (c_5 : Nat),
  e = Ending.returned (Value.slice a_5 l_5 c_5) ∧
  Ld Go.Proofs.Try.prog (44 : Nat) w' (Addr.mk b (0 : Nat) none)
  (Value.agg
  #[Value.int IntKind.i64 i, Value.slice a l c, Value.slice a_1 l_1 c_1, Value.slice a_2 l_2 c_2,
  Value.slice a_3 l_3 c_3, Value.int IntKind.i64 i_1, Value.int IntKind.i64 i_2, Value.bool b_3]) ∧
  CallV Go.Proofs.Try.prog (70 : Nat)
  [Value.agg
  #[Value.int IntKind.i64 i, Value.slice a l c, Value.slice a_1 l_1 c_1, Value.slice a_2 l_2 c_2,
  Value.slice a_3 l_3 c_3, Value.int IntKind.i64 i_1, Value.int IntKind.i64 i_2, Value.bool b_3],
  Value.slice a_5 l_5 c_5]
  w' fun (e : Ending) (w' : World) ↦
  ∃ (i : Int),
  ∃ (a : Option Addr),
  ∃ (l : Nat),
  ∃ (c : Nat),
  ∃ (a_6 : Option Addr),
  ∃ (l_6 : Nat),
  ∃ (c_6 : Nat),
  ∃ (a_7 : Option Addr),
  ∃ (l_7 : Nat),
  ∃ (c_7 : Nat),
  ∃ (a_8 : Option Addr),
  ∃ (l_8 : Nat),
  ∃ (c_8 : Nat),
  ∃ (i_3 : Int),
  ∃ (i_4 : Int),
  ∃ (b : Bool),
  e =
  Ending.returned
  (Value.agg
  #[Value.int IntKind.i64 i, Value.slice a l c, Value.slice a_6 l_6 c_6,
  Value.slice a_7 l_7 c_7, Value.slice a_8 l_8 c_8,
  Value.int IntKind.i64 i_3, Value.int IntKind.i64 i_4, Value.bool b]) ∧
  ∃ (w1 : World),
  St Go.Proofs.Try.prog (44 : Nat) w' (Addr.mk b_2 (0 : Nat) none)
  (Value.agg
  #[Value.int IntKind.i64 i, Value.slice a l c, Value.slice a_6 l_6 c_6,
  Value.slice a_7 l_7 c_7, Value.slice a_8 l_8 c_8,
  Value.int IntKind.i64 i_3, Value.int IntKind.i64 i_4, Value.bool b])
  w1 ∧
  ∃ (i : Int),
  ∃ (a : Option Addr),
  ∃ (l : Nat),
  ∃ (c : Nat),
  ∃ (a_9 : Option Addr),
  ∃ (l_9 : Nat),
  ∃ (c_9 : Nat),
  ∃ (a_10 : Option Addr),
  ∃ (l_10 : Nat),
  ∃ (c_10 : Nat),
  ∃ (a_11 : Option Addr),
  ∃ (l_11 : Nat),
  ∃ (c_11 : Nat),
  ∃ (i_5 : Int),
  ∃ (i_6 : Int),
  ∃ (b : Bool),
  Ld Go.Proofs.Try.prog (44 : Nat) w1
  (Addr.mk b_2 (0 : Nat) none)
  (Value.agg
  #[Value.int IntKind.i64 i,
  Value.slice a l c,
  Value.slice a_9 l_9 c_9,
  Value.slice a_10 l_10 c_10,
  Value.slice a_11 l_11 c_11,
  Value.int IntKind.i64 i_5,
  Value.int IntKind.i64 i_6,
  Value.bool b]) ∧
  R
  (Ending.returned
  (Value.agg
  #[Value.int IntKind.i64 i,
  Value.slice a l c,
  Value.slice a_9 l_9 c_9,
  Value.slice a_10 l_10 c_10,
  Value.slice a_11 l_11 c_11,
  Value.int IntKind.i64 i_5,
  Value.int IntKind.i64 i_6,
  Value.bool b]))
  w1)
  (br (decide (i = (6 : Int)))
  (∃ (a : Option Addr),
  ∃ (l : Nat),
  ∃ (c : Nat),
  Ld Go.Proofs.Try.prog (41 : Nat) w1 (Addr.mk b (2 : Nat) none) (Value.slice a l c) ∧
  ∃ (w1_2 : World),
  St Go.Proofs.Try.prog (41 : Nat) w1 (Addr.mk b (3 : Nat) none) (Value.slice a l c) w1_2 ∧
  ∃ (w1 : World),
  St Go.Proofs.Try.prog (42 : Nat) w1_2 (Addr.mk b (4 : Nat) none) (Value.slice none (0 : Nat) (0 : Nat)) w1 ∧
  ∃ (i : Int),
  ∃ (a : Option Addr),
  ∃ (l : Nat),
  ∃ (c : Nat),
  ∃ (a_1 : Option Addr),
  ∃ (l_1 : Nat),
  ∃ (c_1 : Nat),
  ∃ (a_2 : Option Addr),
  ∃ (l_2 : Nat),
  ∃ (c_2 : Nat),
  ∃ (a_3 : Option Addr),
  ∃ (l_3 : Nat),
  ∃ (c_3 : Nat),
  ∃ (i_1 : Int),
  ∃ (i_2 : Int),
  ∃ (b_3 : Bool),
  Ld Go.Proofs.Try.prog (44 : Nat) w1 (Addr.mk b (0 : Nat) none)
  (Value.agg
  #[Value.int IntKind.i64 i, Value.slice a l c, Value.slice a_1 l_1 c_1, Value.slice a_2 l_2 c_2,
  Value.slice a_3 l_3 c_3, Value.int IntKind.i64 i_1, Value.int IntKind.i64 i_2, Value.bool b_3]) ∧
  ∃ (w1_3 : World),
  St Go.Proofs.Try.prog (44 : Nat) w1 (Addr.mk b_2 (0 : Nat) none)
  (Value.agg
  #[Value.int IntKind.i64 i, Value.slice a l c, Value.slice a_1 l_1 c_1, Value.slice a_2 l_2 c_2,
  Value.slice a_3 l_3 c_3, Value.int IntKind.i64 i_1, Value.int IntKind.i64 i_2, Value.bool b_3])
  w1_3 ∧
  ∃ (i : Int),
  ∃ (a : Option Addr),
  ∃ (l : Nat),
  ∃ (c : Nat),
  ∃ (a_4 : Option Addr),
  ∃ (l_4 : Nat),
  ∃ (c_4 : Nat),
  ∃ (a_5 : Option Addr),
  ∃ (l_5 : Nat),
  ∃ (c_5 : Nat),
  ∃ (a_6 : Option Addr),
  ∃ (l_6 : Nat),
  ∃ (c_6 : Nat),
  ∃ (i_3 : Int),
  ∃ (i_4 : Int),
  ∃ (b : Bool),
  Ld Go.Proofs.Try.prog (44 : Nat) w1_3 (Addr.mk b_2 (0 : Nat) none)
  (Value.agg
  #[Value.int IntKind.i64 i, Value.slice a l c, Value.slice a_4 l_4 c_4,
  Value.slice a_5 l_5 c_5, Value.slice a_6 l_6 c_6, Value.int IntKind.i64 i_3,
  Value.int IntKind.i64 i_4, Value.bool b]) ∧
  R
  (Ending.returned
  (Value.agg
  #[Value.int IntKind.i64 i, Value.slice a l c, Value.slice a_4 l_4 c_4,
  Value.slice a_5 l_5 c_5, Value.slice a_6 l_6 c_6, Value.int IntKind.i64 i_3,
  Value.int IntKind.i64 i_4, Value.bool b]))
  w1_3)
  (∃ (i : Int),
  ∃ (a : Option Addr),
  ∃ (l : Nat),
  ∃ (c : Nat),
  ∃ (a_1 : Option Addr),
  ∃ (l_1 : Nat),
  ∃ (c_1 : Nat),
  ∃ (a_2 : Option Addr),
  ∃ (l_2 : Nat),
  ∃ (c_2 : Nat),
  ∃ (a_3 : Option Addr),
  ∃ (l_3 : Nat),
  ∃ (c_3 : Nat),
  ∃ (i_1 : Int),
  ∃ (i_2 : Int),
  ∃ (b_3 : Bool),
  Ld Go.Proofs.Try.prog (44 : Nat) w1 (Addr.mk b (0 : Nat) none)
  (Value.agg
  #[Value.int IntKind.i64 i, Value.slice a l c, Value.slice a_1 l_1 c_1, Value.slice a_2 l_2 c_2, Value.slice a_3 l_3 c_3,
  Value.int IntKind.i64 i_1, Value.int IntKind.i64 i_2, Value.bool b_3]) ∧
  ∃ (w1_2 : World),
  St Go.Proofs.Try.prog (44 : Nat) w1 (Addr.mk b_2 (0 : Nat) none)
  (Value.agg
  #[Value.int IntKind.i64 i, Value.slice a l c, Value.slice a_1 l_1 c_1, Value.slice a_2 l_2 c_2, Value.slice a_3 l_3 c_3,
  Value.int IntKind.i64 i_1, Value.int IntKind.i64 i_2, Value.bool b_3])
  w1_2 ∧
  ∃ (i : Int),
  ∃ (a : Option Addr),
  ∃ (l : Nat),
  ∃ (c : Nat),
  ∃ (a_4 : Option Addr),
  ∃ (l_4 : Nat),
  ∃ (c_4 : Nat),
  ∃ (a_5 : Option Addr),
  ∃ (l_5 : Nat),
  ∃ (c_5 : Nat),
  ∃ (a_6 : Option Addr),
  ∃ (l_6 : Nat),
  ∃ (c_6 : Nat),
  ∃ (i_3 : Int),
  ∃ (i_4 : Int),
  ∃ (b : Bool),
  Ld Go.Proofs.Try.prog (44 : Nat) w1_2 (Addr.mk b_2 (0 : Nat) none)
  (Value.agg
  #[Value.int IntKind.i64 i, Value.slice a l c, Value.slice a_4 l_4 c_4, Value.slice a_5 l_5 c_5,
  Value.slice a_6 l_6 c_6, Value.int IntKind.i64 i_3, Value.int IntKind.i64 i_4,
  Value.bool b]) ∧
  R
  (Ending.returned
  (Value.agg
  #[Value.int IntKind.i64 i, Value.slice a l c, Value.slice a_4 l_4 c_4,
  Value.slice a_5 l_5 c_5, Value.slice a_6 l_6 c_6, Value.int IntKind.i64 i_3,
  Value.int IntKind.i64 i_4, Value.bool b]))
  w1_2))))))
theorem rdoes.eq (d_Room : Int) (d_Filesa : Option Addr) (d_Filesn : Nat) (d_Filesc : Nat) (d_Namesa : Option Addr) (d_Namesn : Nat) (d_Namesc : Nat) (d_Firma : Option Addr) (d_Firmn : Nat) (d_Firmc : Nat) (d_Sincea : Option Addr) (d_Sincen : Nat) (d_Sincec : Nat) (d_Armed : Int) (d_Denied : Int) (d_Dead : Bool) (o_Kind : Int) (o_N : Int) (o_Name : ByteArray) (o_To : ByteArray) (o_Ba : Option Addr) (o_Bn : Nat) (o_Bc : Nat) (o_Picksa : Option Addr) (o_Picksn : Nat) (o_Picksc : Nat) (w : World) (R : Ending → World → Prop) : bodyV Go.Proofs.Try.prog rdoes.an Go.Proofs.Try.f51 [.agg #[.int .i64 d_Room, .slice d_Filesa d_Filesn d_Filesc, .slice d_Namesa d_Namesn d_Namesc, .slice d_Firma d_Firmn d_Firmc, .slice d_Sincea d_Sincen d_Sincec, .int .i64 d_Armed, .int .i64 d_Denied, .bool d_Dead], .agg #[.int .i64 o_Kind, .int .i64 o_N, .string o_Name, .string o_To, .slice o_Ba o_Bn o_Bc, .slice o_Picksa o_Picksn o_Picksc]] w R = rdoes.vc d_Room d_Filesa d_Filesn d_Filesc d_Namesa d_Namesn d_Namesc d_Firma d_Firmn d_Firmc d_Sincea d_Sincen d_Sincec d_Armed d_Denied d_Dead o_Kind o_N o_Name o_To o_Ba o_Bn o_Bc o_Picksa o_Picksn o_Picksc w R := by kernel_rfl
theorem rdoes.ok (d_Room : Int) (d_Filesa : Option Addr) (d_Filesn : Nat) (d_Filesc : Nat) (d_Namesa : Option Addr) (d_Namesn : Nat) (d_Namesc : Nat) (d_Firma : Option Addr) (d_Firmn : Nat) (d_Firmc : Nat) (d_Sincea : Option Addr) (d_Sincen : Nat) (d_Sincec : Nat) (d_Armed : Int) (d_Denied : Int) (d_Dead : Bool) (o_Kind : Int) (o_N : Int) (o_Name : ByteArray) (o_To : ByteArray) (o_Ba : Option Addr) (o_Bn : Nat) (o_Bc : Nat) (o_Picksa : Option Addr) (o_Picksn : Nat) (o_Picksc : Nat) (w : World) (R : Ending → World → Prop) (h : rdoes.vc d_Room d_Filesa d_Filesn d_Filesc d_Namesa d_Namesn d_Namesc d_Firma d_Firmn d_Firmc d_Sincea d_Sincen d_Sincec d_Armed d_Denied d_Dead o_Kind o_N o_Name o_To o_Ba o_Bn o_Bc o_Picksa o_Picksn o_Picksc w R) : Calls Go.Proofs.Try.prog 51 #[.agg #[.int .i64 d_Room, .slice d_Filesa d_Filesn d_Filesc, .slice d_Namesa d_Namesn d_Namesc, .slice d_Firma d_Firmn d_Firmc, .slice d_Sincea d_Sincen d_Sincec, .int .i64 d_Armed, .int .i64 d_Denied, .bool d_Dead], .agg #[.int .i64 o_Kind, .int .i64 o_N, .string o_Name, .string o_To, .slice o_Ba o_Bn o_Bc, .slice o_Picksa o_Picksn o_Picksc]] w R :=
  calls_of_bodyV noNum (an := rdoes.an) (args := [.agg #[.int .i64 d_Room, .slice d_Filesa d_Filesn d_Filesc, .slice d_Namesa d_Namesn d_Namesc, .slice d_Firma d_Firmn d_Firmc, .slice d_Sincea d_Sincen d_Sincec, .int .i64 d_Armed, .int .i64 d_Denied, .bool d_Dead], .agg #[.int .i64 o_Kind, .int .i64 o_N, .string o_Name, .string o_To, .slice o_Ba o_Bn o_Bc, .slice o_Picksa o_Picksn o_Picksc]]) Go.Proofs.Try.func51 (by kernel_rfl) ((rdoes.eq d_Room d_Filesa d_Filesn d_Filesc d_Namesa d_Namesn d_Namesc d_Firma d_Firmn d_Firmc d_Sincea d_Sincen d_Sincec d_Armed d_Denied d_Dead o_Kind o_N o_Name o_To o_Ba o_Bn o_Bc o_Picksa o_Picksn o_Picksc w R).mpr h)


end Go.Proofs.Ytdpkamajecmebaa
