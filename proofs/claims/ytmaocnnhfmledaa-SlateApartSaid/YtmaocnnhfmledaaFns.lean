/- Of each function the statement that the calculus reckons, printed by a program, and that it is that statement. -/
import Derived.Test.YtmaocnnhfmledaaVcCode
import Derived.Test.YtmaocnnhfmledaaChecked
set_option linter.unusedVariables false
set_option maxRecDepth 100000
namespace Go.Proofs.Ytmaocnnhfmledaa
open Go Go.Vc

/-- no function bears the name that the model takes apart -/
theorem noNum : NoNum Go.Proofs.Try.prog := by
  have h : Go.Proofs.Try.prog.funcs.toList.all (fun fn => !(fn.name == "runtime.NumGoroutine")) = true := by kernel_rfl
  intro f fn hf
  have := List.all_eq_true.1 h fn (by have := Array.mem_of_getElem? hf; simpa using this)
  simpa using this

/-- incunable/slate.New -/
def new.an : An := { wraps := [], loops := [], joins := [], ranges := [] }
def new.vc  (w : World) (R : Ending → World → Prop) : Prop :=
  ∀ (b : Nat) (w1 : World),
  New w (Obj.cells (List.toArray (bigL Go.Proofs.Try.prog (54 : Nat) [((2 : Nat), Value.int IntKind.i64 (4096 : Int))])) (54 : Nat)) b w1 →
  R (Ending.returned (Value.pointer (some (Addr.mk b (0 : Nat) none)))) w1
theorem new.eq  (w : World) (R : Ending → World → Prop) : bodyV Go.Proofs.Try.prog new.an Go.Proofs.Try.f8 [] w R = new.vc  w R := by kernel_rfl
theorem new.ok  (w : World) (R : Ending → World → Prop) (h : new.vc  w R) : Calls Go.Proofs.Try.prog 8 #[] w R :=
  calls_of_bodyV noNum (an := new.an) (args := []) Go.Proofs.Try.func8 (by kernel_rfl) ((new.eq  w R).mpr h)

/-- (*incunable/slate.Page).two -/
def two.an : An := { wraps := [], loops := [], joins := [], ranges := [] }
def two.vc (p : Option Addr) (at_ : Int) (w : World) (R : Ending → World → Prop) : Prop :=
  onP p fun (a : Addr) ↦
  ((0 : Int) ≤ at_ ∧ at_ < (↑(4096 : Nat) : Int)) ∧
  ∃ (i : Int),
  Ld Go.Proofs.Try.prog (5 : Nat) (World.drew w) (Addr.add a (Int.toNat at_ * (1 : Nat))) (Value.int IntKind.u8 i) ∧
  (0 : Int) ≤ (8 : Int) ∧
  inR IntKind.i64 (IntKind.wrap IntKind.i64 i * (2 : Int) ^ min (Int.toNat (8 : Int)) (IntKind.bits IntKind.i64)) ∧
  inR IntKind.i64 (at_ + (1 : Int)) ∧
  onP p fun (a : Addr) ↦
  ((0 : Int) ≤ at_ + (1 : Int) ∧ at_ + (1 : Int) < (↑(4096 : Nat) : Int)) ∧
  ∃ (i_1 : Int),
  Ld Go.Proofs.Try.prog (5 : Nat) (World.drew w) (Addr.add a (Int.toNat (at_ + (1 : Int)) * (1 : Nat))) (Value.int IntKind.u8 i_1) ∧
  R
  (Ending.returned
  (Value.int IntKind.i64
  (Vc.bits BinOp.or IntKind.i64 (IntKind.wrap IntKind.i64 i * (2 : Int) ^ min (Int.toNat (8 : Int)) (IntKind.bits IntKind.i64)) (IntKind.wrap IntKind.i64 i_1))))
  (World.drew w)
theorem two.eq (p : Option Addr) (at_ : Int) (w : World) (R : Ending → World → Prop) : bodyV Go.Proofs.Try.prog two.an Go.Proofs.Try.f28 [.pointer p, .int .i64 at_] w R = two.vc p at_ w R := by kernel_rfl
theorem two.ok (p : Option Addr) (at_ : Int) (w : World) (R : Ending → World → Prop) (h : two.vc p at_ w R) : Calls Go.Proofs.Try.prog 28 #[.pointer p, .int .i64 at_] w R :=
  calls_of_bodyV noNum (an := two.an) (args := [.pointer p, .int .i64 at_]) Go.Proofs.Try.func28 (by kernel_rfl) ((two.eq p at_ w R).mpr h)

/-- (*incunable/slate.Page).lay -/
def lay.an : An := { wraps := [], loops := [], joins := [], ranges := [] }
def lay.vc (p : Option Addr) (at_ : Int) (n : Int) (w : World) (R : Ending → World → Prop) : Prop :=
  inR IntKind.i64 (at_ + (1 : Int)) ∧
  (0 : Int) ≤ (8 : Int) ∧
  onP p fun (a : Addr) ↦
  ((0 : Int) ≤ at_ ∧ at_ < (↑(4096 : Nat) : Int)) ∧
  onP p fun (a_1 : Addr) ↦
  ∃ (w1 : World),
  St Go.Proofs.Try.prog (5 : Nat) (World.drew w) (Addr.add a (Int.toNat at_ * (1 : Nat)))
  (Value.int IntKind.u8 (IntKind.wrap IntKind.u8 (Int.fdiv n ((2 : Int) ^ min (Int.toNat (8 : Int)) (IntKind.bits IntKind.i64))))) w1 ∧
  ((0 : Int) ≤ at_ + (1 : Int) ∧ at_ + (1 : Int) < (↑(4096 : Nat) : Int)) ∧
  ∃ (w1_1 : World),
  St Go.Proofs.Try.prog (5 : Nat) w1 (Addr.add a_1 (Int.toNat (at_ + (1 : Int)) * (1 : Nat))) (Value.int IntKind.u8 (IntKind.wrap IntKind.u8 n)) w1_1 ∧
  R (Ending.returned (Value.tuple #[])) w1_1
theorem lay.eq (p : Option Addr) (at_ : Int) (n : Int) (w : World) (R : Ending → World → Prop) : bodyV Go.Proofs.Try.prog lay.an Go.Proofs.Try.f34 [.pointer p, .int .i64 at_, .int .i64 n] w R = lay.vc p at_ n w R := by kernel_rfl
theorem lay.ok (p : Option Addr) (at_ : Int) (n : Int) (w : World) (R : Ending → World → Prop) (h : lay.vc p at_ n w R) : Calls Go.Proofs.Try.prog 34 #[.pointer p, .int .i64 at_, .int .i64 n] w R :=
  calls_of_bodyV noNum (an := lay.an) (args := [.pointer p, .int .i64 at_, .int .i64 n]) Go.Proofs.Try.func34 (by kernel_rfl) ((lay.eq p at_ n w R).mpr h)

/-- (*incunable/slate.Page).slot -/
def slot.an : An := { wraps := [], loops := [], joins := [], ranges := [] }
def slot.vc (p : Option Addr) (k : Int) (w : World) (R : Ending → World → Prop) : Prop :=
  br (decide (k < (0 : Int))) (R (Ending.returned (Value.tuple #[Value.int IntKind.i64 (0 : Int), Value.int IntKind.i64 (0 : Int)])) w)
  (onP p fun (a : Addr) ↦
  ∃ (i : Int),
  Ld Go.Proofs.Try.prog (3 : Nat) w (Addr.add a (4096 : Nat)) (Value.int IntKind.i64 i) ∧
  br (decide (i ≤ k)) (R (Ending.returned (Value.tuple #[Value.int IntKind.i64 (0 : Int), Value.int IntKind.i64 (0 : Int)])) w)
  (inR IntKind.i64 ((4 : Int) * k) ∧
  inR IntKind.i64 ((10 : Int) + (4 : Int) * k) ∧
  CallV Go.Proofs.Try.prog (28 : Nat) [Value.pointer p, Value.int IntKind.i64 ((10 : Int) + (4 : Int) * k)] w fun (e : Ending) (w' : World) ↦
  ∃ (i : Int),
  e = Ending.returned (Value.int IntKind.i64 i) ∧
  inR IntKind.i64 ((4 : Int) * k) ∧
  inR IntKind.i64 ((10 : Int) + (4 : Int) * k) ∧
  inR IntKind.i64 ((10 : Int) + (4 : Int) * k + (2 : Int)) ∧
  CallV Go.Proofs.Try.prog (28 : Nat) [Value.pointer p, Value.int IntKind.i64 ((10 : Int) + (4 : Int) * k + (2 : Int))] w' fun (e : Ending) (w' : World) ↦
  ∃ (i_1 : Int), e = Ending.returned (Value.int IntKind.i64 i_1) ∧ R (Ending.returned (Value.tuple #[Value.int IntKind.i64 i, Value.int IntKind.i64 i_1])) w'))
theorem slot.eq (p : Option Addr) (k : Int) (w : World) (R : Ending → World → Prop) : bodyV Go.Proofs.Try.prog slot.an Go.Proofs.Try.f26 [.pointer p, .int .i64 k] w R = slot.vc p k w R := by kernel_rfl
theorem slot.ok (p : Option Addr) (k : Int) (w : World) (R : Ending → World → Prop) (h : slot.vc p k w R) : Calls Go.Proofs.Try.prog 26 #[.pointer p, .int .i64 k] w R :=
  calls_of_bodyV noNum (an := slot.an) (args := [.pointer p, .int .i64 k]) Go.Proofs.Try.func26 (by kernel_rfl) ((slot.eq p k w R).mpr h)

/-- (*incunable/slate.Page).set -/
def set.an : An := { wraps := [], loops := [], joins := [], ranges := [] }
def set.vc (p : Option Addr) (k : Int) (at_ : Int) (long : Int) (w : World) (R : Ending → World → Prop) : Prop :=
  inR IntKind.i64 ((4 : Int) * k) ∧
  inR IntKind.i64 ((10 : Int) + (4 : Int) * k) ∧
  CallV Go.Proofs.Try.prog (34 : Nat) [Value.pointer p, Value.int IntKind.i64 ((10 : Int) + (4 : Int) * k), Value.int IntKind.i64 at_] w fun (e : Ending) (w' : World) ↦
  e = Ending.returned (Value.tuple #[]) ∧
  inR IntKind.i64 ((4 : Int) * k) ∧
  inR IntKind.i64 ((10 : Int) + (4 : Int) * k) ∧
  inR IntKind.i64 ((10 : Int) + (4 : Int) * k + (2 : Int)) ∧
  CallV Go.Proofs.Try.prog (34 : Nat) [Value.pointer p, Value.int IntKind.i64 ((10 : Int) + (4 : Int) * k + (2 : Int)), Value.int IntKind.i64 long] w' fun (e : Ending) (w' : World) ↦
  e = Ending.returned (Value.tuple #[]) ∧ R (Ending.returned (Value.tuple #[])) w'
theorem set.eq (p : Option Addr) (k : Int) (at_ : Int) (long : Int) (w : World) (R : Ending → World → Prop) : bodyV Go.Proofs.Try.prog set.an Go.Proofs.Try.f33 [.pointer p, .int .i64 k, .int .i64 at_, .int .i64 long] w R = set.vc p k at_ long w R := by kernel_rfl
theorem set.ok (p : Option Addr) (k : Int) (at_ : Int) (long : Int) (w : World) (R : Ending → World → Prop) (h : set.vc p k at_ long w R) : Calls Go.Proofs.Try.prog 33 #[.pointer p, .int .i64 k, .int .i64 at_, .int .i64 long] w R :=
  calls_of_bodyV noNum (an := set.an) (args := [.pointer p, .int .i64 k, .int .i64 at_, .int .i64 long]) Go.Proofs.Try.func33 (by kernel_rfl) ((set.eq p k at_ long w R).mpr h)

/-- (*incunable/slate.Page).each -/
def each.an : An := { wraps := [], loops := [(1, [(11, .inl .i64)])], joins := [], ranges := [] }
def each.vc (p : Option Addr) (yield : Value) (w : World) (R : Ending → World → Prop) : Prop :=
  onP p fun (a : Addr) ↦
  ∃ (i : Int),
  Ld Go.Proofs.Try.prog (3 : Nat) w (Addr.add a (4096 : Nat)) (Value.int IntKind.i64 i) ∧
  LoopP
  (fun (s : Int) (w' : World) (next : Int → World → Prop) ↦
  br (decide (s < i))
  (CallV Go.Proofs.Try.prog (26 : Nat) [Value.pointer p, Value.int IntKind.i64 s] w' fun (e : Ending) (w' : World) ↦
  ∃ (i : Int),
  ∃ (i_1 : Int),
  e = Ending.returned (Value.tuple #[Value.int IntKind.i64 i, Value.int IntKind.i64 i_1]) ∧
  br (decide ((0 : Int) < i))
  (CallX Go.Proofs.Try.prog yield [Value.int IntKind.i64 s] w' fun (e : Ending) (w' : World) ↦
  ∃ (b : Bool), e = Ending.returned (Value.bool b) ∧ br (!b) (R (Ending.returned (Value.tuple #[])) w') (inR IntKind.i64 (s + (1 : Int)) ∧ next (s + (1 : Int)) w'))
  (inR IntKind.i64 (s + (1 : Int)) ∧ next (s + (1 : Int)) w'))
  (R (Ending.returned (Value.tuple #[])) w'))
  (0 : Int) w
theorem each.eq (p : Option Addr) (yield : Value) (w : World) (R : Ending → World → Prop) : bodyV Go.Proofs.Try.prog each.an Go.Proofs.Try.f25 [.pointer p, yield] w R = each.vc p yield w R := by kernel_rfl
theorem each.ok (p : Option Addr) (yield : Value) (w : World) (R : Ending → World → Prop) (h : each.vc p yield w R) : Calls Go.Proofs.Try.prog 25 #[.pointer p, yield] w R :=
  calls_of_bodyV noNum (an := each.an) (args := [.pointer p, yield]) Go.Proofs.Try.func25 (by kernel_rfl) ((each.eq p yield w R).mpr h)

/-- (*incunable/slate.Page).Slots -/
def slots.an : An := { wraps := [], loops := [], joins := [], ranges := [(4, [(7, .inl .i64)])] }
def slots.vc (p : Option Addr) (w : World) (R : Ending → World → Prop) : Prop :=
  ∀ (b : Nat) (w1 : World),
  New w (Obj.cells #[Value.slice none (0 : Nat) (0 : Nat)] (32 : Nat)) b w1 →
  RangeP Go.Proofs.Try.prog (25 : Nat) [Value.pointer p] [] (fun (s : Int) ↦ [Value.int IntKind.i64 s])
  (fun (s : Int) (w' : World) (begin : World → (World → Prop) → Prop) (kn kr : World → Prop) (kx : Nat → World → Prop) ↦
  begin w' fun (w2 : World) ↦
  ∃ (a : Option Addr),
  ∃ (l : Nat),
  ∃ (c : Nat),
  Ld Go.Proofs.Try.prog (32 : Nat) w2 (Addr.mk b (0 : Nat) none) (Value.slice a l c) ∧
  ∀ (b_1 : Nat) (w1 : World),
  New w2 (Obj.cells #[Value.int IntKind.i64 s] (3 : Nat)) b_1 w1 →
  ∃ (a_2 : Option Addr),
  ∃ (n : Nat),
  ∃ (m : Nat),
  ∃ (w1_1 : World),
  App Go.Proofs.Try.prog #[(32 : Nat), (32 : Nat)] (32 : Nat) w1 (Value.slice a l c) (Value.slice (some (Addr.mk b_1 (0 : Nat) none)) (1 : Nat) (1 : Nat))
  (Value.slice a_2 n m) w1_1 ∧
  ∃ (w1 : World), St Go.Proofs.Try.prog (32 : Nat) w1_1 (Addr.mk b (0 : Nat) none) (Value.slice a_2 n m) w1 ∧ kn w1)
  w1
  (fun (D : Nat) (w' : World) ↦
  ∃ (a : Option Addr),
  ∃ (l : Nat), ∃ (c : Nat), Ld Go.Proofs.Try.prog (32 : Nat) w' (Addr.mk b (0 : Nat) none) (Value.slice a l c) ∧ ∃ (w1 : World), ShutD w' D w1 ∧ R (Ending.returned (Value.slice a l c)) w1)
  (fun (D : Nat) (w' : World) ↦ False) fun (id D : Nat) (w' : World) ↦ False
theorem slots.eq (p : Option Addr) (w : World) (R : Ending → World → Prop) : bodyV Go.Proofs.Try.prog slots.an Go.Proofs.Try.f12 [.pointer p] w R = slots.vc p w R := by kernel_rfl
theorem slots.ok (p : Option Addr) (w : World) (R : Ending → World → Prop) (h : slots.vc p w R) : Calls Go.Proofs.Try.prog 12 #[.pointer p] w R :=
  calls_of_bodyV noNum (an := slots.an) (args := [.pointer p]) Go.Proofs.Try.func12 (by kernel_rfl) ((slots.eq p w R).mpr h)

/-- (*incunable/slate.Page).Room -/
def room.an : An := { wraps := [], loops := [], joins := [], ranges := [(4, [(9, .inl .i64)])] }
def room.vc (p : Option Addr) (w : World) (R : Ending → World → Prop) : Prop :=
  ∀ (b : Nat) (w1 : World),
  New w (Obj.cells #[Value.pointer p] (23 : Nat)) b w1 →
  ∀ (b_1 : Nat) (w1_1 : World),
  New w1 (Obj.cells #[Value.int IntKind.i64 (0 : Int)] (3 : Nat)) b_1 w1_1 →
  ∃ (w1 : World),
  St Go.Proofs.Try.prog (3 : Nat) w1_1 (Addr.mk b_1 (0 : Nat) none) (Value.int IntKind.i64 (3600 : Int)) w1 ∧
  ∃ (p : Option Addr),
  Ld Go.Proofs.Try.prog (23 : Nat) w1 (Addr.mk b (0 : Nat) none) (Value.pointer p) ∧
  RangeP Go.Proofs.Try.prog (25 : Nat) [Value.pointer p] [] (fun (s : Int) ↦ [Value.int IntKind.i64 s])
  (fun (s : Int) (w' : World) (begin : World → (World → Prop) → Prop) (kn kr : World → Prop) (kx : Nat → World → Prop) ↦
  begin w' fun (w2 : World) ↦
  ∃ (p : Option Addr),
  Ld Go.Proofs.Try.prog (23 : Nat) w2 (Addr.mk b (0 : Nat) none) (Value.pointer p) ∧
  CallV Go.Proofs.Try.prog (26 : Nat) [Value.pointer p, Value.int IntKind.i64 s] w2 fun (e : Ending) (w' : World) ↦
  ∃ (i : Int),
  ∃ (i_1 : Int),
  e = Ending.returned (Value.tuple #[Value.int IntKind.i64 i, Value.int IntKind.i64 i_1]) ∧
  ∃ (i : Int),
  Ld Go.Proofs.Try.prog (3 : Nat) w' (Addr.mk b_1 (0 : Nat) none) (Value.int IntKind.i64 i) ∧
  inR IntKind.i64 (i - i_1) ∧ ∃ (w1 : World), St Go.Proofs.Try.prog (3 : Nat) w' (Addr.mk b_1 (0 : Nat) none) (Value.int IntKind.i64 (i - i_1)) w1 ∧ kn w1)
  w1
  (fun (D : Nat) (w' : World) ↦
  ∃ (i : Int),
  Ld Go.Proofs.Try.prog (3 : Nat) w' (Addr.mk b_1 (0 : Nat) none) (Value.int IntKind.i64 i) ∧ ∃ (w1 : World), ShutD w' D w1 ∧ R (Ending.returned (Value.int IntKind.i64 i)) w1)
  (fun (D : Nat) (w' : World) ↦ False) fun (id D : Nat) (w' : World) ↦ False
theorem room.eq (p : Option Addr) (w : World) (R : Ending → World → Prop) : bodyV Go.Proofs.Try.prog room.an Go.Proofs.Try.f11 [.pointer p] w R = room.vc p w R := by kernel_rfl
theorem room.ok (p : Option Addr) (w : World) (R : Ending → World → Prop) (h : room.vc p w R) : Calls Go.Proofs.Try.prog 11 #[.pointer p] w R :=
  calls_of_bodyV noNum (an := room.an) (args := [.pointer p]) Go.Proofs.Try.func11 (by kernel_rfl) ((room.eq p w R).mpr h)

/-- (*incunable/slate.Page).Get -/
def get.an : An := { wraps := [], loops := [], joins := [], ranges := [] }
def get.vc (p : Option Addr) (slot : Int) (w : World) (R : Ending → World → Prop) : Prop :=
  CallV Go.Proofs.Try.prog (26 : Nat) [Value.pointer p, Value.int IntKind.i64 slot] w fun (e : Ending) (w' : World) ↦
  ∃ (i : Int),
  ∃ (i_1 : Int),
  e = Ending.returned (Value.tuple #[Value.int IntKind.i64 i, Value.int IntKind.i64 i_1]) ∧
  br (decide (i = (0 : Int))) (R (Ending.returned (Value.tuple #[Value.string (ByteArray.mk #[]), Value.bool false])) w')
  (onP p fun (a : Addr) ↦
  inR IntKind.i64 (i + i_1) ∧
  ((0 : Int) ≤ i ∧ i ≤ i + i_1 ∧ i + i_1 ≤ (↑(4096 : Nat) : Int)) ∧
  ∃ (s : ByteArray),
  B2S Go.Proofs.Try.prog (37 : Nat) (9 : Nat) w' (Value.slice (slA (some a) (4096 : Nat) (Int.toNat i) (1 : Nat)) (Int.toNat (i + i_1) - Int.toNat i) ((4096 : Nat) - Int.toNat i))
  (Value.string s) ∧
  R (Ending.returned (Value.tuple #[Value.string s, Value.bool true])) w')
theorem get.eq (p : Option Addr) (slot : Int) (w : World) (R : Ending → World → Prop) : bodyV Go.Proofs.Try.prog get.an Go.Proofs.Try.f19 [.pointer p, .int .i64 slot] w R = get.vc p slot w R := by kernel_rfl
theorem get.ok (p : Option Addr) (slot : Int) (w : World) (R : Ending → World → Prop) (h : get.vc p slot w R) : Calls Go.Proofs.Try.prog 19 #[.pointer p, .int .i64 slot] w R :=
  calls_of_bodyV noNum (an := get.an) (args := [.pointer p, .int .i64 slot]) Go.Proofs.Try.func19 (by kernel_rfl) ((get.eq p slot w R).mpr h)

/-- (*incunable/slate.Page).drop -/
def drop.an : An := { wraps := [], loops := [(12, [])], joins := [], ranges := [(6, [(42, .inl .i64)])] }
def drop.vc (p : Option Addr) (slot : Int) (w : World) (R : Ending → World → Prop) : Prop :=
  ∀ (b : Nat) (w1 : World),
  New w (Obj.cells #[Value.pointer p] (23 : Nat)) b w1 →
  ∃ (p : Option Addr),
  Ld Go.Proofs.Try.prog (23 : Nat) w1 (Addr.mk b (0 : Nat) none) (Value.pointer p) ∧
  CallV Go.Proofs.Try.prog (26 : Nat) [Value.pointer p, Value.int IntKind.i64 slot] w1 fun (e : Ending) (w' : World) ↦
  ∃ (i : Int),
  ∃ (i_1 : Int),
  e = Ending.returned (Value.tuple #[Value.int IntKind.i64 i, Value.int IntKind.i64 i_1]) ∧
  ∀ (b_1 : Nat) (w1 : World),
  New w' (Obj.cells #[Value.int IntKind.i64 (0 : Int)] (3 : Nat)) b_1 w1 →
  ∀ (b_2 : Nat) (w1_1 : World),
  New w1 (Obj.cells #[Value.int IntKind.i64 (0 : Int)] (3 : Nat)) b_2 w1_1 →
  ∃ (w1 : World),
  St Go.Proofs.Try.prog (3 : Nat) w1_1 (Addr.mk b_1 (0 : Nat) none) (Value.int IntKind.i64 i) w1 ∧
  ∃ (w1_2 : World),
  St Go.Proofs.Try.prog (3 : Nat) w1 (Addr.mk b_2 (0 : Nat) none) (Value.int IntKind.i64 i_1) w1_2 ∧
  ∃ (i : Int),
  Ld Go.Proofs.Try.prog (3 : Nat) w1_2 (Addr.mk b_1 (0 : Nat) none) (Value.int IntKind.i64 i) ∧
  br (decide (i = (0 : Int))) (R (Ending.returned (Value.tuple #[])) w1_2)
  (∃ (p : Option Addr),
  Ld Go.Proofs.Try.prog (23 : Nat) (World.drew w1_2) (Addr.mk b (0 : Nat) none) (Value.pointer p) ∧
  onP p fun (a : Addr) ↦
  ∃ (p : Option Addr),
  Ld Go.Proofs.Try.prog (23 : Nat) (World.drew w1_2) (Addr.mk b (0 : Nat) none) (Value.pointer p) ∧
  onP p fun (a_1 : Addr) ↦
  ∃ (i : Int),
  Ld Go.Proofs.Try.prog (3 : Nat) (World.drew w1_2) (Addr.add a_1 (4097 : Nat)) (Value.int IntKind.i64 i) ∧
  ∃ (i_2 : Int),
  Ld Go.Proofs.Try.prog (3 : Nat) (World.drew w1_2) (Addr.mk b_2 (0 : Nat) none) (Value.int IntKind.i64 i_2) ∧
  inR IntKind.i64 (i + i_2) ∧
  ∃ (i_3 : Int),
  Ld Go.Proofs.Try.prog (3 : Nat) (World.drew w1_2) (Addr.mk b_1 (0 : Nat) none) (Value.int IntKind.i64 i_3) ∧
  ∃ (i_4 : Int),
  Ld Go.Proofs.Try.prog (3 : Nat) (World.drew w1_2) (Addr.mk b_2 (0 : Nat) none) (Value.int IntKind.i64 i_4) ∧
  inR IntKind.i64 (i_3 + i_4) ∧
  ((0 : Int) ≤ i + i_2 ∧ i + i_2 ≤ i_3 + i_4 ∧ i_3 + i_4 ≤ (↑(4096 : Nat) : Int)) ∧
  ∃ (p : Option Addr),
  Ld Go.Proofs.Try.prog (23 : Nat) (World.drew w1_2) (Addr.mk b (0 : Nat) none) (Value.pointer p) ∧
  onP p fun (a_2 : Addr) ↦
  ∃ (p : Option Addr),
  Ld Go.Proofs.Try.prog (23 : Nat) (World.drew w1_2) (Addr.mk b (0 : Nat) none) (Value.pointer p) ∧
  onP p fun (a_3 : Addr) ↦
  ∃ (i_5 : Int),
  Ld Go.Proofs.Try.prog (3 : Nat) (World.drew w1_2) (Addr.add a_3 (4097 : Nat)) (Value.int IntKind.i64 i_5) ∧
  ∃ (i_6 : Int),
  Ld Go.Proofs.Try.prog (3 : Nat) (World.drew w1_2) (Addr.mk b_1 (0 : Nat) none) (Value.int IntKind.i64 i_6) ∧
  ((0 : Int) ≤ i_5 ∧ i_5 ≤ i_6 ∧ i_6 ≤ (↑(4096 : Nat) : Int)) ∧
  ∃ (n : Int),
  ∃ (w1 : World),
  Cpy Go.Proofs.Try.prog #[(37 : Nat), (37 : Nat)] (3 : Nat) (World.drew w1_2)
  (Value.slice (slA (some a) (4096 : Nat) (Int.toNat (i + i_2)) (1 : Nat))
  (Int.toNat (i_3 + i_4) - Int.toNat (i + i_2)) ((4096 : Nat) - Int.toNat (i + i_2)))
  (Value.slice (slA (some a_2) (4096 : Nat) (Int.toNat i_5) (1 : Nat))
  (Int.toNat i_6 - Int.toNat i_5) ((4096 : Nat) - Int.toNat i_5))
  (Value.int IntKind.i64 n) w1 ∧
  ∃ (p : Option Addr),
  Ld Go.Proofs.Try.prog (23 : Nat) w1 (Addr.mk b (0 : Nat) none) (Value.pointer p) ∧
  RangeP Go.Proofs.Try.prog (25 : Nat) [Value.pointer p] []
  (fun (s : Int) ↦ [Value.int IntKind.i64 s])
  (fun (s : Int) (w' : World) (begin : World → (World → Prop) → Prop) (kn kr : World → Prop)
  (kx : Nat → World → Prop) ↦
  begin w' fun (w2 : World) ↦
  ∃ (p : Option Addr),
  Ld Go.Proofs.Try.prog (23 : Nat) w2 (Addr.mk b (0 : Nat) none) (Value.pointer p) ∧
  CallV Go.Proofs.Try.prog (26 : Nat) [Value.pointer p, Value.int IntKind.i64 s] w2
  fun (e : Ending) (w' : World) ↦
  ∃ (i : Int),
  ∃ (i_7 : Int),
  e =
  Ending.returned
  (Value.tuple #[Value.int IntKind.i64 i, Value.int IntKind.i64 i_7]) ∧
  ∃ (i_8 : Int),
  Ld Go.Proofs.Try.prog (3 : Nat) w' (Addr.mk b_1 (0 : Nat) none)
  (Value.int IntKind.i64 i_8) ∧
  br (decide (i ≤ i_8))
  (∃ (p : Option Addr),
  Ld Go.Proofs.Try.prog (23 : Nat) w' (Addr.mk b (0 : Nat) none)
  (Value.pointer p) ∧
  ∃ (i_9 : Int),
  Ld Go.Proofs.Try.prog (3 : Nat) w' (Addr.mk b_2 (0 : Nat) none)
  (Value.int IntKind.i64 i_9) ∧
  inR IntKind.i64 (i + i_9) ∧
  CallV Go.Proofs.Try.prog (33 : Nat)
  [Value.pointer p, Value.int IntKind.i64 s,
  Value.int IntKind.i64 (i + i_9),
  Value.int IntKind.i64 i_7]
  w' fun (e : Ending) (w' : World) ↦
  e = Ending.returned (Value.tuple #[]) ∧ kn w')
  (kn w'))
  w1
  (fun (D : Nat) (w' : World) ↦
  ∃ (p : Option Addr),
  Ld Go.Proofs.Try.prog (23 : Nat) (World.drew w') (Addr.mk b (0 : Nat) none)
  (Value.pointer p) ∧
  onP p fun (a : Addr) ↦
  ∃ (p : Option Addr),
  Ld Go.Proofs.Try.prog (23 : Nat) (World.drew w') (Addr.mk b (0 : Nat) none)
  (Value.pointer p) ∧
  onP p fun (a_4 : Addr) ↦
  ∃ (i : Int),
  Ld Go.Proofs.Try.prog (3 : Nat) (World.drew w') (Addr.add a_4 (4097 : Nat))
  (Value.int IntKind.i64 i) ∧
  ∃ (p : Option Addr),
  Ld Go.Proofs.Try.prog (23 : Nat) (World.drew w') (Addr.mk b (0 : Nat) none)
  (Value.pointer p) ∧
  onP p fun (a_5 : Addr) ↦
  ∃ (i_7 : Int),
  Ld Go.Proofs.Try.prog (3 : Nat) (World.drew w')
  (Addr.add a_5 (4097 : Nat)) (Value.int IntKind.i64 i_7) ∧
  ∃ (i_8 : Int),
  Ld Go.Proofs.Try.prog (3 : Nat) (World.drew w')
  (Addr.mk b_2 (0 : Nat) none) (Value.int IntKind.i64 i_8) ∧
  inR IntKind.i64 (i_7 + i_8) ∧
  ((0 : Int) ≤ i ∧
  i ≤ i_7 + i_8 ∧ i_7 + i_8 ≤ (↑(4096 : Nat) : Int)) ∧
  ∃ (w1 : World),
  Clr Go.Proofs.Try.prog #[(37 : Nat)] (0 : Nat)
  (World.drew w')
  (Value.slice
  (slA (some a) (4096 : Nat) (Int.toNat i)
  (1 : Nat))
  (Int.toNat (i_7 + i_8) - Int.toNat i)
  ((4096 : Nat) - Int.toNat i))
  w1 ∧
  ∃ (p : Option Addr),
  Ld Go.Proofs.Try.prog (23 : Nat) (World.drew w1)
  (Addr.mk b (0 : Nat) none) (Value.pointer p) ∧
  onP p fun (a : Addr) ↦
  ∃ (i : Int),
  Ld Go.Proofs.Try.prog (3 : Nat) (World.drew w1)
  (Addr.add a (4097 : Nat))
  (Value.int IntKind.i64 i) ∧
  ∃ (i_9 : Int),
  Ld Go.Proofs.Try.prog (3 : Nat)
  (World.drew w1)
  (Addr.mk b_2 (0 : Nat) none)
  (Value.int IntKind.i64 i_9) ∧
  inR IntKind.i64 (i + i_9) ∧
  onP p fun (a : Addr) ↦
  ∃ (w1_3 : World),
  St Go.Proofs.Try.prog (3 : Nat)
  (World.drew w1)
  (Addr.add a (4097 : Nat))
  (Value.int IntKind.i64
  (i + i_9))
  w1_3 ∧
  ∃ (p : Option Addr),
  Ld Go.Proofs.Try.prog (23 : Nat)
  w1_3
  (Addr.mk b (0 : Nat) none)
  (Value.pointer p) ∧
  CallV Go.Proofs.Try.prog
  (33 : Nat)
  [Value.pointer p,
  Value.int IntKind.i64
  slot,
  Value.int IntKind.i64
  (0 : Int),
  Value.int IntKind.i64
  (0 : Int)]
  w1_3
  fun (e : Ending)
  (w' : World) ↦
  e =
  Ending.returned
  (Value.tuple #[]) ∧
  LoopP
  (fun (s : PUnit)
  (w' : World)
  (next :
  PUnit →
  World →
  Prop) ↦
  ∃ (p : Option Addr),
  Ld Go.Proofs.Try.prog
  (23 : Nat)
  (World.drew
  w')
  (Addr.mk b
  (0 : Nat)
  none)
  (Value.pointer
  p) ∧
  onP p
  fun
  (a : Addr) ↦
  ∃ (i : Int),
  Ld
  Go.Proofs.Try.prog
  (3 :
  Nat)
  (World.drew
  w')
  (Addr.add
  a
  (4096 :
  Nat))
  (Value.int
  IntKind.i64
  i) ∧
  br
  (decide
  ((0 :
  Int) <
  i))
  (∃ (p :
  Option
  Addr),
  Ld
  Go.Proofs.Try.prog
  (23 :
  Nat)
  (World.drew
  w')
  (Addr.mk
  b
  (0 :
  Nat)
  none)
  (Value.pointer
  p) ∧
  ∃
  (p_1
  :
  Option
  Addr),
  Ld
  Go.Proofs.Try.prog
  (23 :
  Nat)
  (World.drew
  w')
  (Addr.mk
  b
  (0 :
  Nat)
  none)
  (Value.pointer
  p_1) ∧
  onP
  p_1
  fun
  (a :
  Addr) ↦
  ∃
  (i
  :
  Int),
  Ld
  Go.Proofs.Try.prog
  (3 :
  Nat)
  (World.drew
  w')
  (Addr.add
  a
  (4096 :
  Nat))
  (Value.int
  IntKind.i64
  i) ∧
  inR
  IntKind.i64
  (i -
  (1 :
  Int)) ∧
  inR
  IntKind.i64
  ((4 :
  Int) *
  (i -
  (1 :
  Int))) ∧
  inR
  IntKind.i64
  ((10 :
  Int) +
  (4 :
  Int) *
  (i -
  (1 :
  Int))) ∧
  CallV
  Go.Proofs.Try.prog
  (28 :
  Nat)
  [Value.pointer
  p,
  Value.int
  IntKind.i64
  ((10 :
  Int) +
  (4 :
  Int) *
  (i -
  (1 :
  Int)))]
  (World.drew
  w')
  fun
  (e :
  Ending)
  (w' :
  World) ↦
  ∃
  (i
  :
  Int),
  e =
  Ending.returned
  (Value.int
  IntKind.i64
  i) ∧
  br
  (decide
  (i =
  (0 :
  Int)))
  (∃
  (p
  :
  Option
  Addr),
  Ld
  Go.Proofs.Try.prog
  (23 :
  Nat)
  w'
  (Addr.mk
  b
  (0 :
  Nat)
  none)
  (Value.pointer
  p) ∧
  onP
  p
  fun
  (a :
  Addr) ↦
  ∃
  (i
  :
  Int),
  Ld
  Go.Proofs.Try.prog
  (3 :
  Nat)
  w'
  (Addr.add
  a
  (4096 :
  Nat))
  (Value.int
  IntKind.i64
  i) ∧
  inR
  IntKind.i64
  (i -
  (1 :
  Int)) ∧
  onP
  p
  fun
  (a :
  Addr) ↦
  ∃
  (w1
  :
  World),
  St
  Go.Proofs.Try.prog
  (3 :
  Nat)
  w'
  (Addr.add
  a
  (4096 :
  Nat))
  (Value.int
  IntKind.i64
  (i -
  (1 :
  Int)))
  w1 ∧
  next
  ()
  w1)
  (∃
  (p
  :
  Option
  Addr),
  Ld
  Go.Proofs.Try.prog
  (23 :
  Nat)
  (World.drew
  w')
  (Addr.mk
  b
  (0 :
  Nat)
  none)
  (Value.pointer
  p) ∧
  ∃
  (p_2
  :
  Option
  Addr),
  Ld
  Go.Proofs.Try.prog
  (23 :
  Nat)
  (World.drew
  w')
  (Addr.mk
  b
  (0 :
  Nat)
  none)
  (Value.pointer
  p_2) ∧
  onP
  p_2
  fun
  (a :
  Addr) ↦
  ∃
  (i
  :
  Int),
  Ld
  Go.Proofs.Try.prog
  (3 :
  Nat)
  (World.drew
  w')
  (Addr.add
  a
  (4096 :
  Nat))
  (Value.int
  IntKind.i64
  i) ∧
  CallV
  Go.Proofs.Try.prog
  (34 :
  Nat)
  [Value.pointer
  p,
  Value.int
  IntKind.i64
  (8 :
  Int),
  Value.int
  IntKind.i64
  i]
  (World.drew
  w')
  fun
  (e :
  Ending)
  (w' :
  World) ↦
  e =
  Ending.returned
  (Value.tuple
  #[]) ∧
  ∃
  (w1
  :
  World),
  ShutD
  w'
  D
  w1 ∧
  R
  (Ending.returned
  (Value.tuple
  #[]))
  w1))
  (∃ (p :
  Option
  Addr),
  Ld
  Go.Proofs.Try.prog
  (23 :
  Nat)
  (World.drew
  (World.drew
  w'))
  (Addr.mk
  b
  (0 :
  Nat)
  none)
  (Value.pointer
  p) ∧
  ∃
  (p_1
  :
  Option
  Addr),
  Ld
  Go.Proofs.Try.prog
  (23 :
  Nat)
  (World.drew
  (World.drew
  w'))
  (Addr.mk
  b
  (0 :
  Nat)
  none)
  (Value.pointer
  p_1) ∧
  onP
  p_1
  fun
  (a :
  Addr) ↦
  ∃
  (i
  :
  Int),
  Ld
  Go.Proofs.Try.prog
  (3 :
  Nat)
  (World.drew
  (World.drew
  w'))
  (Addr.add
  a
  (4096 :
  Nat))
  (Value.int
  IntKind.i64
  i) ∧
  CallV
  Go.Proofs.Try.prog
  (34 :
  Nat)
  [Value.pointer
  p,
  Value.int
  IntKind.i64
  (8 :
  Int),
  Value.int
  IntKind.i64
  i]
  (World.drew
  (World.drew
  w'))
  fun
  (e :
  Ending)
  (w' :
  World) ↦
  e =
  Ending.returned
  (Value.tuple
  #[]) ∧
  ∃
  (w1
  :
  World),
  ShutD
  w'
  D
  w1 ∧
  R
  (Ending.returned
  (Value.tuple
  #[]))
  w1))
  () w')
  (fun (D : Nat) (w' : World) ↦ False) fun (id D : Nat) (w' : World) ↦ False)
theorem drop.eq (p : Option Addr) (slot : Int) (w : World) (R : Ending → World → Prop) : bodyV Go.Proofs.Try.prog drop.an Go.Proofs.Try.f29 [.pointer p, .int .i64 slot] w R = drop.vc p slot w R := by kernel_rfl
theorem drop.ok (p : Option Addr) (slot : Int) (w : World) (R : Ending → World → Prop) (h : drop.vc p slot w R) : Calls Go.Proofs.Try.prog 29 #[.pointer p, .int .i64 slot] w R :=
  calls_of_bodyV noNum (an := drop.an) (args := [.pointer p, .int .i64 slot]) Go.Proofs.Try.func29 (by kernel_rfl) ((drop.eq p slot w R).mpr h)

/-- (*incunable/slate.Page).Put -/
def put.an : An := { wraps := [], loops := [(10, [])], joins := [(7, [(7, .inl .i64)])], ranges := [] }
def put.vc (p : Option Addr) (slot : Int) (s : ByteArray) (w : World) (R : Ending → World → Prop) : Prop :=
  br (decide (slot < (0 : Int))) (R (Ending.returned (Value.int IntKind.i64 (110 : Int))) w)
  (br (decide ((120 : Int) ≤ slot)) (R (Ending.returned (Value.int IntKind.i64 (110 : Int))) w)
  (CallV Go.Proofs.Try.prog (11 : Nat) [Value.pointer p] w fun (e : Ending) (w' : World) ↦
  ∃ (i : Int),
  e = Ending.returned (Value.int IntKind.i64 i) ∧
  CallV Go.Proofs.Try.prog (26 : Nat) [Value.pointer p, Value.int IntKind.i64 slot] w' fun (e : Ending) (w' : World) ↦
  ∃ (i_1 : Int),
  ∃ (i_2 : Int),
  e = Ending.returned (Value.tuple #[Value.int IntKind.i64 i_1, Value.int IntKind.i64 i_2]) ∧
  JoinP
  (fun (s_1 : Int) (w' : World) ↦
  br (decide (s_1 < (↑(ByteArray.size s) : Int))) (R (Ending.returned (Value.int IntKind.i64 (111 : Int))) w')
  (CallV Go.Proofs.Try.prog (29 : Nat) [Value.pointer p, Value.int IntKind.i64 slot] w' fun (e : Ending) (w' : World) ↦
  e = Ending.returned (Value.tuple #[]) ∧
  LoopP
  (fun (s_2 : PUnit) (w' : World) (next : PUnit → World → Prop) ↦
  onP p fun (a : Addr) ↦
  ∃ (i : Int),
  Ld Go.Proofs.Try.prog (3 : Nat) w' (Addr.add a (4096 : Nat)) (Value.int IntKind.i64 i) ∧
  br (decide (i ≤ slot))
  (onP p fun (a : Addr) ↦
  ∃ (i : Int),
  Ld Go.Proofs.Try.prog (3 : Nat) w' (Addr.add a (4096 : Nat)) (Value.int IntKind.i64 i) ∧
  CallV Go.Proofs.Try.prog (33 : Nat) [Value.pointer p, Value.int IntKind.i64 i, Value.int IntKind.i64 (0 : Int), Value.int IntKind.i64 (0 : Int)] w'
  fun (e : Ending) (w' : World) ↦
  e = Ending.returned (Value.tuple #[]) ∧
  onP p fun (a : Addr) ↦
  ∃ (i : Int),
  Ld Go.Proofs.Try.prog (3 : Nat) w' (Addr.add a (4096 : Nat)) (Value.int IntKind.i64 i) ∧
  inR IntKind.i64 (i + (1 : Int)) ∧
  onP p fun (a : Addr) ↦
  ∃ (w1 : World), St Go.Proofs.Try.prog (3 : Nat) w' (Addr.add a (4096 : Nat)) (Value.int IntKind.i64 (i + (1 : Int))) w1 ∧ next () w1)
  (onP p fun (a : Addr) ↦
  ∃ (i : Int),
  Ld Go.Proofs.Try.prog (3 : Nat) w' (Addr.add a (4096 : Nat)) (Value.int IntKind.i64 i) ∧
  CallV Go.Proofs.Try.prog (34 : Nat) [Value.pointer p, Value.int IntKind.i64 (8 : Int), Value.int IntKind.i64 i] w' fun (e : Ending) (w' : World) ↦
  e = Ending.returned (Value.tuple #[]) ∧
  onP p fun (a : Addr) ↦
  ∃ (i : Int),
  Ld Go.Proofs.Try.prog (3 : Nat) w' (Addr.add a (4097 : Nat)) (Value.int IntKind.i64 i) ∧
  inR IntKind.i64 (i - (↑(ByteArray.size s) : Int)) ∧
  onP p fun (a : Addr) ↦
  ∃ (w1 : World),
  St Go.Proofs.Try.prog (3 : Nat) w' (Addr.add a (4097 : Nat)) (Value.int IntKind.i64 (i - (↑(ByteArray.size s) : Int))) w1 ∧
  onP p fun (a : Addr) ↦
  onP p fun (a_1 : Addr) ↦
  ∃ (i : Int),
  Ld Go.Proofs.Try.prog (3 : Nat) (World.drew w1) (Addr.add a_1 (4097 : Nat)) (Value.int IntKind.i64 i) ∧
  ((0 : Int) ≤ i ∧ i ≤ (↑(4096 : Nat) : Int)) ∧
  ∃ (n : Int),
  ∃ (w1_1 : World),
  Cpy Go.Proofs.Try.prog #[(37 : Nat), (9 : Nat)] (3 : Nat) (World.drew w1)
  (Value.slice (slA (some a) (4096 : Nat) (Int.toNat i) (1 : Nat)) ((4096 : Nat) - Int.toNat i)
  ((4096 : Nat) - Int.toNat i))
  (Value.string s) (Value.int IntKind.i64 n) w1_1 ∧
  onP p fun (a : Addr) ↦
  ∃ (i : Int),
  Ld Go.Proofs.Try.prog (3 : Nat) w1_1 (Addr.add a (4097 : Nat)) (Value.int IntKind.i64 i) ∧
  CallV Go.Proofs.Try.prog (33 : Nat)
  [Value.pointer p, Value.int IntKind.i64 slot, Value.int IntKind.i64 i,
  Value.int IntKind.i64 (↑(ByteArray.size s) : Int)]
  w1_1 fun (e : Ending) (w' : World) ↦
  e = Ending.returned (Value.tuple #[]) ∧ R (Ending.returned (Value.int IntKind.i64 (0 : Int))) w'))
  () w'))
  fun (J : Int → World → Prop) ↦ br (decide ((0 : Int) < i_1)) (inR IntKind.i64 (i + i_2) ∧ J (i + i_2) w') (J i w')))
theorem put.eq (p : Option Addr) (slot : Int) (s : ByteArray) (w : World) (R : Ending → World → Prop) : bodyV Go.Proofs.Try.prog put.an Go.Proofs.Try.f27 [.pointer p, .int .i64 slot, .string s] w R = put.vc p slot s w R := by kernel_rfl
theorem put.ok (p : Option Addr) (slot : Int) (s : ByteArray) (w : World) (R : Ending → World → Prop) (h : put.vc p slot s w R) : Calls Go.Proofs.Try.prog 27 #[.pointer p, .int .i64 slot, .string s] w R :=
  calls_of_bodyV noNum (an := put.an) (args := [.pointer p, .int .i64 slot, .string s]) Go.Proofs.Try.func27 (by kernel_rfl) ((put.eq p slot s w R).mpr h)

/-- (*incunable/slate.Page).Insert -/
def insert.an : An := { wraps := [], loops := [], joins := [], ranges := [(4, [(11, .inl .i64)])] }
def insert.vc (p : Option Addr) (s : ByteArray) (w : World) (R : Ending → World → Prop) : Prop :=
  ∀ (b : Nat) (w1 : World),
  New w (Obj.cells #[Value.int IntKind.i64 (0 : Int)] (3 : Nat)) b w1 →
  ∃ (w1_1 : World),
  St Go.Proofs.Try.prog (3 : Nat) w1 (Addr.mk b (0 : Nat) none) (Value.int IntKind.i64 (0 : Int)) w1_1 ∧
  RangeP Go.Proofs.Try.prog (25 : Nat) [Value.pointer p] [] (fun (s : Int) ↦ [Value.int IntKind.i64 s])
  (fun (s : Int) (w' : World) (begin : World → (World → Prop) → Prop) (kn kr : World → Prop) (kx : Nat → World → Prop) ↦
  begin w' fun (w2 : World) ↦
  ∃ (i : Int),
  Ld Go.Proofs.Try.prog (3 : Nat) w2 (Addr.mk b (0 : Nat) none) (Value.int IntKind.i64 i) ∧
  br (decide (s = i))
  (∃ (i : Int),
  Ld Go.Proofs.Try.prog (3 : Nat) w2 (Addr.mk b (0 : Nat) none) (Value.int IntKind.i64 i) ∧
  inR IntKind.i64 (i + (1 : Int)) ∧ ∃ (w1 : World), St Go.Proofs.Try.prog (3 : Nat) w2 (Addr.mk b (0 : Nat) none) (Value.int IntKind.i64 (i + (1 : Int))) w1 ∧ kn w1)
  (kn w2))
  w1_1
  (fun (D : Nat) (w' : World) ↦
  ∃ (i : Int),
  Ld Go.Proofs.Try.prog (3 : Nat) w' (Addr.mk b (0 : Nat) none) (Value.int IntKind.i64 i) ∧
  br (decide ((120 : Int) ≤ i)) (∃ (w1 : World), ShutD w' D w1 ∧ R (Ending.returned (Value.tuple #[Value.int IntKind.i64 (0 : Int), Value.int IntKind.i64 (111 : Int)])) w1)
  (∃ (i : Int),
  Ld Go.Proofs.Try.prog (3 : Nat) w' (Addr.mk b (0 : Nat) none) (Value.int IntKind.i64 i) ∧
  CallV Go.Proofs.Try.prog (27 : Nat) [Value.pointer p, Value.int IntKind.i64 i, Value.string s] w' fun (e : Ending) (w' : World) ↦
  ∃ (i : Int),
  e = Ending.returned (Value.int IntKind.i64 i) ∧
  br (!decide (i = (0 : Int))) (∃ (w1 : World), ShutD w' D w1 ∧ R (Ending.returned (Value.tuple #[Value.int IntKind.i64 (0 : Int), Value.int IntKind.i64 i])) w1)
  (∃ (i : Int),
  Ld Go.Proofs.Try.prog (3 : Nat) w' (Addr.mk b (0 : Nat) none) (Value.int IntKind.i64 i) ∧
  ∃ (w1 : World), ShutD w' D w1 ∧ R (Ending.returned (Value.tuple #[Value.int IntKind.i64 i, Value.int IntKind.i64 (0 : Int)])) w1)))
  (fun (D : Nat) (w' : World) ↦ False) fun (id D : Nat) (w' : World) ↦ False
theorem insert.eq (p : Option Addr) (s : ByteArray) (w : World) (R : Ending → World → Prop) : bodyV Go.Proofs.Try.prog insert.an Go.Proofs.Try.f13 [.pointer p, .string s] w R = insert.vc p s w R := by kernel_rfl
theorem insert.ok (p : Option Addr) (s : ByteArray) (w : World) (R : Ending → World → Prop) (h : insert.vc p s w R) : Calls Go.Proofs.Try.prog 13 #[.pointer p, .string s] w R :=
  calls_of_bodyV noNum (an := insert.an) (args := [.pointer p, .string s]) Go.Proofs.Try.func13 (by kernel_rfl) ((insert.eq p s w R).mpr h)

/-- (*incunable/slate.Page).Delete -/
def delete.an : An := { wraps := [], loops := [], joins := [], ranges := [] }
def delete.vc (p : Option Addr) (slot : Int) (w : World) (R : Ending → World → Prop) : Prop :=
  CallV Go.Proofs.Try.prog (26 : Nat) [Value.pointer p, Value.int IntKind.i64 slot] w fun (e : Ending) (w' : World) ↦
  ∃ (i : Int),
  ∃ (i_1 : Int),
  e = Ending.returned (Value.tuple #[Value.int IntKind.i64 i, Value.int IntKind.i64 i_1]) ∧
  br (decide (i = (0 : Int))) (R (Ending.returned (Value.int IntKind.i64 (110 : Int))) w')
  (CallV Go.Proofs.Try.prog (29 : Nat) [Value.pointer p, Value.int IntKind.i64 slot] w' fun (e : Ending) (w' : World) ↦
  e = Ending.returned (Value.tuple #[]) ∧ R (Ending.returned (Value.int IntKind.i64 (0 : Int))) w')
theorem delete.eq (p : Option Addr) (slot : Int) (w : World) (R : Ending → World → Prop) : bodyV Go.Proofs.Try.prog delete.an Go.Proofs.Try.f22 [.pointer p, .int .i64 slot] w R = delete.vc p slot w R := by kernel_rfl
theorem delete.ok (p : Option Addr) (slot : Int) (w : World) (R : Ending → World → Prop) (h : delete.vc p slot w R) : Calls Go.Proofs.Try.prog 22 #[.pointer p, .int .i64 slot] w R :=
  calls_of_bodyV noNum (an := delete.an) (args := [.pointer p, .int .i64 slot]) Go.Proofs.Try.func22 (by kernel_rfl) ((delete.eq p slot w R).mpr h)

/-- (*incunable/slate.Page).Stamp -/
def stamp.an : An := { wraps := [], loops := [(3, [(3, .inl .i64), (11, .inl .i64)])], joins := [], ranges := [] }
def stamp.vc (p : Option Addr) (w : World) (R : Ending → World → Prop) : Prop :=
  onP p fun (a : Addr) ↦
  ((0 : Int) ≤ (8 : Int) ∧ (8 : Int) ≤ (↑(4096 : Nat) : Int)) ∧
  LoopP
  (fun (s : Int × Int) (w' : World) (next : Int × Int → World → Prop) ↦
  br (decide (Prod.snd s < (↑(Int.toNat (8 : Int)) : Int)))
  (((0 : Int) ≤ Prod.snd s ∧ Prod.snd s < (↑(Int.toNat (8 : Int)) : Int)) ∧
  ∃ (i : Int),
  Ld Go.Proofs.Try.prog (5 : Nat) w' (Addr.add a (Int.toNat (Prod.snd s) * (1 : Nat))) (Value.int IntKind.u8 i) ∧
  (0 : Int) ≤ (8 : Int) ∧
  inR IntKind.i64 (Prod.fst s * (2 : Int) ^ min (Int.toNat (8 : Int)) (IntKind.bits IntKind.i64)) ∧
  inR IntKind.i64 (Prod.snd s + (1 : Int)) ∧
  next (Vc.bits BinOp.or IntKind.i64 (Prod.fst s * (2 : Int) ^ min (Int.toNat (8 : Int)) (IntKind.bits IntKind.i64)) (IntKind.wrap IntKind.i64 i), Prod.snd s + (1 : Int)) w')
  (R (Ending.returned (Value.int IntKind.i64 (Prod.fst s))) w'))
  ((0 : Int), (0 : Int)) w
theorem stamp.eq (p : Option Addr) (w : World) (R : Ending → World → Prop) : bodyV Go.Proofs.Try.prog stamp.an Go.Proofs.Try.f17 [.pointer p] w R = stamp.vc p w R := by kernel_rfl
theorem stamp.ok (p : Option Addr) (w : World) (R : Ending → World → Prop) (h : stamp.vc p w R) : Calls Go.Proofs.Try.prog 17 #[.pointer p] w R :=
  calls_of_bodyV noNum (an := stamp.an) (args := [.pointer p]) Go.Proofs.Try.func17 (by kernel_rfl) ((stamp.eq p w R).mpr h)

/-- (*incunable/slate.Page).SetStamp -/
def setStamp.an : An := { wraps := [], loops := [(4, [(12, .inl .i64)])], joins := [], ranges := [] }
def setStamp.vc (p : Option Addr) (n : Int) (w : World) (R : Ending → World → Prop) : Prop :=
  br (decide (n < (0 : Int))) (R (Ending.returned (Value.bool false)) w)
  (br (decide ((4611686018427387904 : Int) < n)) (R (Ending.returned (Value.bool false)) w)
  (LoopP
  (fun (s : Int) (w' : World) (next : Int → World → Prop) ↦
  br (decide (s < (8 : Int)))
  (inR IntKind.i64 ((8 : Int) * s) ∧
  inR IntKind.i64 ((56 : Int) - (8 : Int) * s) ∧
  (0 : Int) ≤ (56 : Int) - (8 : Int) * s ∧
  onP p fun (a : Addr) ↦
  ((0 : Int) ≤ s ∧ s < (↑(4096 : Nat) : Int)) ∧
  ∃ (w1 : World),
  St Go.Proofs.Try.prog (5 : Nat) (World.drew w') (Addr.add a (Int.toNat s * (1 : Nat)))
  (Value.int IntKind.u8 (IntKind.wrap IntKind.u8 (Int.fdiv n ((2 : Int) ^ min (Int.toNat ((56 : Int) - (8 : Int) * s)) (IntKind.bits IntKind.i64))))) w1 ∧
  inR IntKind.i64 (s + (1 : Int)) ∧ next (s + (1 : Int)) w1)
  (R (Ending.returned (Value.bool true)) w'))
  (0 : Int) w))
theorem setStamp.eq (p : Option Addr) (n : Int) (w : World) (R : Ending → World → Prop) : bodyV Go.Proofs.Try.prog setStamp.an Go.Proofs.Try.f15 [.pointer p, .int .i64 n] w R = setStamp.vc p n w R := by kernel_rfl
theorem setStamp.ok (p : Option Addr) (n : Int) (w : World) (R : Ending → World → Prop) (h : setStamp.vc p n w R) : Calls Go.Proofs.Try.prog 15 #[.pointer p, .int .i64 n] w R :=
  calls_of_bodyV noNum (an := setStamp.an) (args := [.pointer p, .int .i64 n]) Go.Proofs.Try.func15 (by kernel_rfl) ((setStamp.eq p n w R).mpr h)

/-- (*incunable/slate.Page).Bytes -/
def bytes.an : An := { wraps := [], loops := [], joins := [], ranges := [] }
def bytes.vc (p : Option Addr) (w : World) (R : Ending → World → Prop) : Prop :=
  onP p fun (a : Addr) ↦
  ∃ (cs : List Value),
  Ld Go.Proofs.Try.prog (52 : Nat) w a (Value.agg (List.toArray cs)) ∧
  ∀ (b : Nat) (w1 : World),
  New w (Obj.cells (List.toArray (zl Go.Proofs.Try.prog (52 : Nat))) (52 : Nat)) b w1 →
  ∃ (w1_1 : World),
  St Go.Proofs.Try.prog (52 : Nat) w1 (Addr.mk b (0 : Nat) none) (Value.agg (List.toArray cs)) w1_1 ∧
  R (Ending.returned (Value.slice (some (Addr.mk b (0 : Nat) none)) (4096 : Nat) (4096 : Nat))) w1_1
theorem bytes.eq (p : Option Addr) (w : World) (R : Ending → World → Prop) : bodyV Go.Proofs.Try.prog bytes.an Go.Proofs.Try.f20 [.pointer p] w R = bytes.vc p w R := by kernel_rfl
theorem bytes.ok (p : Option Addr) (w : World) (R : Ending → World → Prop) (h : bytes.vc p w R) : Calls Go.Proofs.Try.prog 20 #[.pointer p] w R :=
  calls_of_bodyV noNum (an := bytes.an) (args := [.pointer p]) Go.Proofs.Try.func20 (by kernel_rfl) ((bytes.eq p w R).mpr h)

/-- (*incunable/slate.Page).Clone -/
def clone.an : An := { wraps := [], loops := [], joins := [], ranges := [] }
def clone.vc (p : Option Addr) (w : World) (R : Ending → World → Prop) : Prop :=
  onP p fun (a : Addr) ↦
  ∃ (cs : List Value),
  ∃ (i : Int),
  ∃ (i_1 : Int),
  Ld Go.Proofs.Try.prog (54 : Nat) w a (Value.agg (List.toArray (cs ++ ([Value.int IntKind.i64 i] ++ ([Value.int IntKind.i64 i_1] ++ []))))) ∧
  ∀ (b : Nat) (w1 : World),
  New w (Obj.cells (List.toArray (zl Go.Proofs.Try.prog (54 : Nat))) (54 : Nat)) b w1 →
  ∃ (w1_1 : World),
  St Go.Proofs.Try.prog (54 : Nat) w1 (Addr.mk b (0 : Nat) none) (Value.agg (List.toArray (cs ++ ([Value.int IntKind.i64 i] ++ ([Value.int IntKind.i64 i_1] ++ []))))) w1_1 ∧
  R (Ending.returned (Value.pointer (some (Addr.mk b (0 : Nat) none)))) w1_1
theorem clone.eq (p : Option Addr) (w : World) (R : Ending → World → Prop) : bodyV Go.Proofs.Try.prog clone.an Go.Proofs.Try.f18 [.pointer p] w R = clone.vc p w R := by kernel_rfl
theorem clone.ok (p : Option Addr) (w : World) (R : Ending → World → Prop) (h : clone.vc p w R) : Calls Go.Proofs.Try.prog 18 #[.pointer p] w R :=
  calls_of_bodyV noNum (an := clone.an) (args := [.pointer p]) Go.Proofs.Try.func18 (by kernel_rfl) ((clone.eq p w R).mpr h)

/-- incunable/slate.Load -/
def load.an : An := { wraps := [], loops := [], joins := [], ranges := [(11, [(29, .inl .i64)])] }
def load.vc (ba : Option Addr) (bn : Nat) (bc : Nat) (w : World) (R : Ending → World → Prop) : Prop :=
  ∀ (b : Nat) (w1 : World),
  New w (Obj.cells #[Value.slice ba bn bc] (37 : Nat)) b w1 →
  ∀ (b_1 : Nat) (w1_1 : World),
  New w1 (Obj.cells #[Value.pointer none] (23 : Nat)) b_1 w1_1 →
  ∀ (b_2 : Nat) (w1 : World),
  New w1_1 (Obj.cells #[Value.int IntKind.i64 (0 : Int)] (34 : Nat)) b_2 w1 →
  ∃ (a : Option Addr),
  ∃ (l : Nat),
  ∃ (c : Nat),
  Ld Go.Proofs.Try.prog (37 : Nat) w1 (Addr.mk b (0 : Nat) none) (Value.slice a l c) ∧
  br (!decide ((↑l : Int) = (4096 : Int)))
  (∃ (w1_2 : World),
  St Go.Proofs.Try.prog (23 : Nat) w1 (Addr.mk b_1 (0 : Nat) none) (Value.pointer none) w1_2 ∧
  ∃ (w1 : World),
  St Go.Proofs.Try.prog (34 : Nat) w1_2 (Addr.mk b_2 (0 : Nat) none) (Value.int IntKind.i64 (112 : Int)) w1 ∧
  ∃ (p : Option Addr),
  Ld Go.Proofs.Try.prog (23 : Nat) w1 (Addr.mk b_1 (0 : Nat) none) (Value.pointer p) ∧
  ∃ (i : Int),
  Ld Go.Proofs.Try.prog (34 : Nat) w1 (Addr.mk b_2 (0 : Nat) none) (Value.int IntKind.i64 i) ∧
  R (Ending.returned (Value.tuple #[Value.pointer p, Value.int IntKind.i64 i])) w1)
  (∀ (b_3 : Nat) (w1_2 : World),
  New w1 (Obj.cells (List.toArray (zl Go.Proofs.Try.prog (54 : Nat))) (54 : Nat)) b_3 w1_2 →
  ∃ (a : Option Addr),
  ∃ (l : Nat),
  ∃ (c : Nat),
  Ld Go.Proofs.Try.prog (37 : Nat) (World.drew w1_2) (Addr.mk b (0 : Nat) none) (Value.slice a l c) ∧
  ∃ (n : Int),
  ∃ (w1 : World),
  Cpy Go.Proofs.Try.prog #[(37 : Nat), (37 : Nat)] (3 : Nat) (World.drew w1_2) (Value.slice (some (Addr.mk b_3 (0 : Nat) none)) (4096 : Nat) (4096 : Nat))
  (Value.slice a l c) (Value.int IntKind.i64 n) w1 ∧
  CallV Go.Proofs.Try.prog (28 : Nat) [Value.pointer (some (Addr.mk b_3 (0 : Nat) none)), Value.int IntKind.i64 (8 : Int)] w1 fun (e : Ending) (w' : World) ↦
  ∃ (i : Int),
  e = Ending.returned (Value.int IntKind.i64 i) ∧
  ∃ (w1 : World),
  St Go.Proofs.Try.prog (3 : Nat) w' (Addr.mk b_3 (4096 : Nat) none) (Value.int IntKind.i64 i) w1 ∧
  CallV Go.Proofs.Try.prog (8 : Nat) [] w1 fun (e : Ending) (w' : World) ↦
  ∃ (p : Option Addr),
  e = Ending.returned (Value.pointer p) ∧
  ∀ (b_4 : Nat) (w1 : World),
  New w' (Obj.cells #[Value.pointer none] (23 : Nat)) b_4 w1 →
  ∃ (w1_3 : World),
  St Go.Proofs.Try.prog (23 : Nat) w1 (Addr.mk b_4 (0 : Nat) none) (Value.pointer p) w1_3 ∧
  ∃ (i : Int),
  Ld Go.Proofs.Try.prog (3 : Nat) (World.drew w1_3) (Addr.mk b_3 (4096 : Nat) none) (Value.int IntKind.i64 i) ∧
  br (decide ((120 : Int) < i))
  (∃ (w1 : World),
  St Go.Proofs.Try.prog (23 : Nat) (World.drew w1_3) (Addr.mk b_1 (0 : Nat) none) (Value.pointer none) w1 ∧
  ∃ (w1_4 : World),
  St Go.Proofs.Try.prog (34 : Nat) w1 (Addr.mk b_2 (0 : Nat) none) (Value.int IntKind.i64 (112 : Int)) w1_4 ∧
  ∃ (p : Option Addr),
  Ld Go.Proofs.Try.prog (23 : Nat) w1_4 (Addr.mk b_1 (0 : Nat) none) (Value.pointer p) ∧
  ∃ (i : Int),
  Ld Go.Proofs.Try.prog (34 : Nat) w1_4 (Addr.mk b_2 (0 : Nat) none) (Value.int IntKind.i64 i) ∧
  R (Ending.returned (Value.tuple #[Value.pointer p, Value.int IntKind.i64 i])) w1_4)
  (∃ (p : Option Addr),
  Ld Go.Proofs.Try.prog (23 : Nat) (World.drew w1_3) (Addr.mk b_4 (0 : Nat) none) (Value.pointer p) ∧
  CallV Go.Proofs.Try.prog (17 : Nat) [Value.pointer (some (Addr.mk b_3 (0 : Nat) none))] (World.drew w1_3)
  fun (e : Ending) (w' : World) ↦
  ∃ (i : Int),
  e = Ending.returned (Value.int IntKind.i64 i) ∧
  Ld Go.Proofs.Try.prog (23 : Nat) w' (Addr.mk b_4 (0 : Nat) none) (Value.pointer p) ∧
  CallV Go.Proofs.Try.prog (15 : Nat) [Value.pointer p, Value.int IntKind.i64 i] w' fun (e : Ending) (w' : World) ↦
  ∃ (b_5 : Bool),
  e = Ending.returned (Value.bool b_5) ∧
  br (!b_5)
  (∃ (w1 : World),
  St Go.Proofs.Try.prog (23 : Nat) w' (Addr.mk b_1 (0 : Nat) none) (Value.pointer none) w1 ∧
  ∃ (w1_4 : World),
  St Go.Proofs.Try.prog (34 : Nat) w1 (Addr.mk b_2 (0 : Nat) none) (Value.int IntKind.i64 (112 : Int)) w1_4 ∧
  ∃ (p : Option Addr),
  Ld Go.Proofs.Try.prog (23 : Nat) w1_4 (Addr.mk b_1 (0 : Nat) none) (Value.pointer p) ∧
  ∃ (i : Int),
  Ld Go.Proofs.Try.prog (34 : Nat) w1_4 (Addr.mk b_2 (0 : Nat) none) (Value.int IntKind.i64 i) ∧
  R (Ending.returned (Value.tuple #[Value.pointer p, Value.int IntKind.i64 i])) w1_4)
  (RangeP Go.Proofs.Try.prog (25 : Nat) [Value.pointer (some (Addr.mk b_3 (0 : Nat) none))] []
  (fun (s : Int) ↦ [Value.int IntKind.i64 s])
  (fun (s : Int) (w' : World) (begin : World → (World → Prop) → Prop) (kn kr : World → Prop)
  (kx : Nat → World → Prop) ↦
  begin w' fun (w2 : World) ↦
  CallV Go.Proofs.Try.prog (26 : Nat)
  [Value.pointer (some (Addr.mk b_3 (0 : Nat) none)), Value.int IntKind.i64 s] w2
  fun (e : Ending) (w' : World) ↦
  ∃ (i : Int),
  ∃ (i_1 : Int),
  e = Ending.returned (Value.tuple #[Value.int IntKind.i64 i, Value.int IntKind.i64 i_1]) ∧
  br (decide (i < (10 : Int)))
  (∃ (w1 : World),
  St Go.Proofs.Try.prog (23 : Nat) (World.drew w') (Addr.mk b_1 (0 : Nat) none)
  (Value.pointer none) w1 ∧
  ∃ (w1_4 : World),
  St Go.Proofs.Try.prog (34 : Nat) w1 (Addr.mk b_2 (0 : Nat) none)
  (Value.int IntKind.i64 (112 : Int)) w1_4 ∧
  kr w1_4)
  (inR IntKind.i64 ((4096 : Int) - i) ∧
  br (decide ((4096 : Int) - i < i_1))
  (∃ (w1 : World),
  St Go.Proofs.Try.prog (23 : Nat) (World.drew w') (Addr.mk b_1 (0 : Nat) none)
  (Value.pointer none) w1 ∧
  ∃ (w1_4 : World),
  St Go.Proofs.Try.prog (34 : Nat) w1 (Addr.mk b_2 (0 : Nat) none)
  (Value.int IntKind.i64 (112 : Int)) w1_4 ∧
  kr w1_4)
  (∃ (p : Option Addr),
  Ld Go.Proofs.Try.prog (23 : Nat) (World.drew w') (Addr.mk b_4 (0 : Nat) none)
  (Value.pointer p) ∧
  ∃ (a : Option Addr),
  ∃ (l : Nat),
  ∃ (c : Nat),
  Ld Go.Proofs.Try.prog (37 : Nat) (World.drew w') (Addr.mk b (0 : Nat) none)
  (Value.slice a l c) ∧
  inR IntKind.i64 (i + i_1) ∧
  ((0 : Int) ≤ i ∧ i ≤ i + i_1 ∧ i + i_1 ≤ (↑c : Int)) ∧
  ∃ (s_1 : ByteArray),
  B2S Go.Proofs.Try.prog (37 : Nat) (9 : Nat) (World.drew w')
  (Value.slice (slA a c (Int.toNat i) (1 : Nat))
  (Int.toNat (i + i_1) - Int.toNat i) (c - Int.toNat i))
  (Value.string s_1) ∧
  CallV Go.Proofs.Try.prog (27 : Nat)
  [Value.pointer p, Value.int IntKind.i64 s, Value.string s_1]
  (World.drew w') fun (e : Ending) (w' : World) ↦
  ∃ (i : Int),
  e = Ending.returned (Value.int IntKind.i64 i) ∧
  br (!decide (i = (0 : Int)))
  (∃ (w1 : World),
  St Go.Proofs.Try.prog (23 : Nat) w'
  (Addr.mk b_1 (0 : Nat) none) (Value.pointer none) w1 ∧
  ∃ (w1_4 : World),
  St Go.Proofs.Try.prog (34 : Nat) w1
  (Addr.mk b_2 (0 : Nat) none)
  (Value.int IntKind.i64 (112 : Int)) w1_4 ∧
  kr w1_4)
  (kn w'))))
  w'
  (fun (D : Nat) (w' : World) ↦
  ∃ (p : Option Addr),
  Ld Go.Proofs.Try.prog (23 : Nat) w' (Addr.mk b_4 (0 : Nat) none) (Value.pointer p) ∧
  ∃ (w1 : World),
  St Go.Proofs.Try.prog (23 : Nat) w' (Addr.mk b_1 (0 : Nat) none) (Value.pointer p) w1 ∧
  ∃ (w1_4 : World),
  St Go.Proofs.Try.prog (34 : Nat) w1 (Addr.mk b_2 (0 : Nat) none) (Value.int IntKind.i64 (0 : Int))
  w1_4 ∧
  ∃ (w1 : World),
  ShutD w1_4 D w1 ∧
  ∃ (p : Option Addr),
  Ld Go.Proofs.Try.prog (23 : Nat) w1 (Addr.mk b_1 (0 : Nat) none) (Value.pointer p) ∧
  ∃ (i : Int),
  Ld Go.Proofs.Try.prog (34 : Nat) w1 (Addr.mk b_2 (0 : Nat) none)
  (Value.int IntKind.i64 i) ∧
  R (Ending.returned (Value.tuple #[Value.pointer p, Value.int IntKind.i64 i])) w1)
  (fun (D : Nat) (w' : World) ↦
  ∃ (w1 : World),
  ShutD w' D w1 ∧
  ∃ (p : Option Addr),
  Ld Go.Proofs.Try.prog (23 : Nat) w1 (Addr.mk b_1 (0 : Nat) none) (Value.pointer p) ∧
  ∃ (i : Int),
  Ld Go.Proofs.Try.prog (34 : Nat) w1 (Addr.mk b_2 (0 : Nat) none) (Value.int IntKind.i64 i) ∧
  R (Ending.returned (Value.tuple #[Value.pointer p, Value.int IntKind.i64 i])) w1)
  fun (id D : Nat) (w' : World) ↦ False)))
theorem load.eq (ba : Option Addr) (bn : Nat) (bc : Nat) (w : World) (R : Ending → World → Prop) : bodyV Go.Proofs.Try.prog load.an Go.Proofs.Try.f21 [.slice ba bn bc] w R = load.vc ba bn bc w R := by kernel_rfl
theorem load.ok (ba : Option Addr) (bn : Nat) (bc : Nat) (w : World) (R : Ending → World → Prop) (h : load.vc ba bn bc w R) : Calls Go.Proofs.Try.prog 21 #[.slice ba bn bc] w R :=
  calls_of_bodyV noNum (an := load.an) (args := [.slice ba bn bc]) Go.Proofs.Try.func21 (by kernel_rfl) ((load.eq ba bn bc w R).mpr h)

/-- incunable/incunableref11.Get -/
def rget.an : An := { wraps := [], loops := [(2, [(6, .inl .i64)])], joins := [], ranges := [] }
def rget.vc (p_La : Option Addr) (p_Ln : Nat) (p_Lc : Nat) (p_Stamp : Int) (slot : Int) (w : World) (R : Ending → World → Prop) : Prop :=
  ∀ (b : Nat) (w1 : World),
  New w (Obj.cells #[Value.slice p_La p_Ln p_Lc, Value.int IntKind.i64 p_Stamp] (28 : Nat)) b w1 →
  LoopP
  (fun (s : Int) (w' : World) (next : Int → World → Prop) ↦
  ∃ (a : Option Addr),
  ∃ (l : Nat),
  ∃ (c : Nat),
  Ld Go.Proofs.Try.prog (26 : Nat) w' (Addr.mk b (0 : Nat) none) (Value.slice a l c) ∧
  br (decide (s < (↑l : Int)))
  (∃ (a : Option Addr),
  ∃ (l : Nat),
  ∃ (c : Nat),
  Ld Go.Proofs.Try.prog (26 : Nat) w' (Addr.mk b (0 : Nat) none) (Value.slice a l c) ∧
  onP a fun (a : Addr) ↦
  ((0 : Int) ≤ s ∧ s < (↑l : Int)) ∧
  ∃ (i : Int),
  Ld Go.Proofs.Try.prog (3 : Nat) w' (Addr.add a (Int.toNat s * (2 : Nat))) (Value.int IntKind.i64 i) ∧
  br (decide (i = slot))
  (∃ (a : Option Addr),
  ∃ (l : Nat),
  ∃ (c : Nat),
  Ld Go.Proofs.Try.prog (26 : Nat) w' (Addr.mk b (0 : Nat) none) (Value.slice a l c) ∧
  onP a fun (a : Addr) ↦
  ((0 : Int) ≤ s ∧ s < (↑l : Int)) ∧
  ∃ (s_1 : ByteArray),
  Ld Go.Proofs.Try.prog (9 : Nat) w' (Addr.add (Addr.add a (Int.toNat s * (2 : Nat))) (1 : Nat)) (Value.string s_1) ∧
  R (Ending.returned (Value.tuple #[Value.string s_1, Value.bool true])) w')
  (inR IntKind.i64 (s + (1 : Int)) ∧ next (s + (1 : Int)) w'))
  (R (Ending.returned (Value.tuple #[Value.string (ByteArray.mk #[]), Value.bool false])) w'))
  (0 : Int) w1
theorem rget.eq (p_La : Option Addr) (p_Ln : Nat) (p_Lc : Nat) (p_Stamp : Int) (slot : Int) (w : World) (R : Ending → World → Prop) : bodyV Go.Proofs.Try.prog rget.an Go.Proofs.Try.f35 [.agg #[.slice p_La p_Ln p_Lc, .int .i64 p_Stamp], .int .i64 slot] w R = rget.vc p_La p_Ln p_Lc p_Stamp slot w R := by kernel_rfl
theorem rget.ok (p_La : Option Addr) (p_Ln : Nat) (p_Lc : Nat) (p_Stamp : Int) (slot : Int) (w : World) (R : Ending → World → Prop) (h : rget.vc p_La p_Ln p_Lc p_Stamp slot w R) : Calls Go.Proofs.Try.prog 35 #[.agg #[.slice p_La p_Ln p_Lc, .int .i64 p_Stamp], .int .i64 slot] w R :=
  calls_of_bodyV noNum (an := rget.an) (args := [.agg #[.slice p_La p_Ln p_Lc, .int .i64 p_Stamp], .int .i64 slot]) Go.Proofs.Try.func35 (by kernel_rfl) ((rget.eq p_La p_Ln p_Lc p_Stamp slot w R).mpr h)

/-- incunable/incunableref11.Room -/
def rroom.an : An := { wraps := [], loops := [(3, [(3, .inl .i64), (4, .inl .i64)])], joins := [], ranges := [] }
def rroom.vc (p_La : Option Addr) (p_Ln : Nat) (p_Lc : Nat) (p_Stamp : Int) (w : World) (R : Ending → World → Prop) : Prop :=
  ∀ (b : Nat) (w1 : World),
  New w (Obj.cells #[Value.slice p_La p_Ln p_Lc, Value.int IntKind.i64 p_Stamp] (28 : Nat)) b w1 →
  LoopP
  (fun (s : Int × Int) (w' : World) (next : Int × Int → World → Prop) ↦
  ∃ (a : Option Addr),
  ∃ (l : Nat),
  ∃ (c : Nat),
  Ld Go.Proofs.Try.prog (26 : Nat) w' (Addr.mk b (0 : Nat) none) (Value.slice a l c) ∧
  br (decide (Prod.snd s < (↑l : Int)))
  (∃ (a : Option Addr),
  ∃ (l : Nat),
  ∃ (c : Nat),
  Ld Go.Proofs.Try.prog (26 : Nat) w' (Addr.mk b (0 : Nat) none) (Value.slice a l c) ∧
  onP a fun (a : Addr) ↦
  ((0 : Int) ≤ Prod.snd s ∧ Prod.snd s < (↑l : Int)) ∧
  ∃ (s_1 : ByteArray),
  Ld Go.Proofs.Try.prog (9 : Nat) w' (Addr.add (Addr.add a (Int.toNat (Prod.snd s) * (2 : Nat))) (1 : Nat)) (Value.string s_1) ∧
  inR IntKind.i64 (Prod.fst s - (↑(ByteArray.size s_1) : Int)) ∧
  inR IntKind.i64 (Prod.snd s + (1 : Int)) ∧ next (Prod.fst s - (↑(ByteArray.size s_1) : Int), Prod.snd s + (1 : Int)) w')
  (R (Ending.returned (Value.int IntKind.i64 (Prod.fst s))) w'))
  ((3600 : Int), (0 : Int)) w1
theorem rroom.eq (p_La : Option Addr) (p_Ln : Nat) (p_Lc : Nat) (p_Stamp : Int) (w : World) (R : Ending → World → Prop) : bodyV Go.Proofs.Try.prog rroom.an Go.Proofs.Try.f24 [.agg #[.slice p_La p_Ln p_Lc, .int .i64 p_Stamp]] w R = rroom.vc p_La p_Ln p_Lc p_Stamp w R := by kernel_rfl
theorem rroom.ok (p_La : Option Addr) (p_Ln : Nat) (p_Lc : Nat) (p_Stamp : Int) (w : World) (R : Ending → World → Prop) (h : rroom.vc p_La p_Ln p_Lc p_Stamp w R) : Calls Go.Proofs.Try.prog 24 #[.agg #[.slice p_La p_Ln p_Lc, .int .i64 p_Stamp]] w R :=
  calls_of_bodyV noNum (an := rroom.an) (args := [.agg #[.slice p_La p_Ln p_Lc, .int .i64 p_Stamp]]) Go.Proofs.Try.func24 (by kernel_rfl) ((rroom.eq p_La p_Ln p_Lc p_Stamp w R).mpr h)

/-- incunable/incunableref11.without -/
def without.an : An := { wraps := [], loops := [(3, [(5, .inr 3), (6, .inl .i64)])], joins := [], ranges := [] }
def without.vc (la : Option Addr) (ln : Nat) (lc : Nat) (slot : Int) (w : World) (R : Ending → World → Prop) : Prop :=
  LoopP
  (fun (s : (Option Addr × Nat × Nat) × Int) (w' : World) (next : (Option Addr × Nat × Nat) × Int → World → Prop) ↦
  br (decide (Prod.snd s < (↑ln : Int)))
  (onP la fun (a : Addr) ↦
  ((0 : Int) ≤ Prod.snd s ∧ Prod.snd s < (↑ln : Int)) ∧
  ∃ (i : Int),
  Ld Go.Proofs.Try.prog (3 : Nat) w' (Addr.add a (Int.toNat (Prod.snd s) * (2 : Nat))) (Value.int IntKind.i64 i) ∧
  br (!decide (i = slot))
  (onP la fun (a : Addr) ↦
  ((0 : Int) ≤ Prod.snd s ∧ Prod.snd s < (↑ln : Int)) ∧
  ∃ (i : Int),
  ∃ (s_1 : ByteArray),
  Ld Go.Proofs.Try.prog (64 : Nat) w' (Addr.add a (Int.toNat (Prod.snd s) * (2 : Nat))) (Value.agg #[Value.int IntKind.i64 i, Value.string s_1]) ∧
  ∀ (b : Nat) (w1 : World),
  New w' (Obj.cells #[Value.int IntKind.i64 i, Value.string s_1] (64 : Nat)) b w1 →
  ∃ (a : Option Addr),
  ∃ (n : Nat),
  ∃ (m : Nat),
  ∃ (w1_1 : World),
  App Go.Proofs.Try.prog #[(26 : Nat), (26 : Nat)] (26 : Nat) w1
  (Value.slice (Prod.fst (Prod.fst s)) (Prod.fst (Prod.snd (Prod.fst s))) (Prod.snd (Prod.snd (Prod.fst s))))
  (Value.slice (some (Addr.mk b (0 : Nat) none)) (1 : Nat) (1 : Nat)) (Value.slice a n m) w1_1 ∧
  inR IntKind.i64 (Prod.snd s + (1 : Int)) ∧ next ((a, n, m), Prod.snd s + (1 : Int)) w1_1)
  (inR IntKind.i64 (Prod.snd s + (1 : Int)) ∧ next ((Prod.fst (Prod.fst s), Prod.fst (Prod.snd (Prod.fst s)), Prod.snd (Prod.snd (Prod.fst s))), Prod.snd s + (1 : Int)) w'))
  (R (Ending.returned (Value.slice (Prod.fst (Prod.fst s)) (Prod.fst (Prod.snd (Prod.fst s))) (Prod.snd (Prod.snd (Prod.fst s))))) w'))
  ((none, (0 : Nat), (0 : Nat)), (0 : Int)) w
theorem without.eq (la : Option Addr) (ln : Nat) (lc : Nat) (slot : Int) (w : World) (R : Ending → World → Prop) : bodyV Go.Proofs.Try.prog without.an Go.Proofs.Try.f36 [.slice la ln lc, .int .i64 slot] w R = without.vc la ln lc slot w R := by kernel_rfl
theorem without.ok (la : Option Addr) (ln : Nat) (lc : Nat) (slot : Int) (w : World) (R : Ending → World → Prop) (h : without.vc la ln lc slot w R) : Calls Go.Proofs.Try.prog 36 #[.slice la ln lc, .int .i64 slot] w R :=
  calls_of_bodyV noNum (an := without.an) (args := [.slice la ln lc, .int .i64 slot]) Go.Proofs.Try.func36 (by kernel_rfl) ((without.eq la ln lc slot w R).mpr h)

/-- incunable/incunableref11.with -/
def rwith.an : An := { wraps := [], loops := [(4, [(5, .inr 3), (6, .inr 0), (7, .inl .i64)])], joins := [(7, [(25, .inr 0)])], ranges := [] }
def rwith.vc (la : Option Addr) (ln : Nat) (lc : Nat) (r_Slot : Int) (r_S : ByteArray) (w : World) (R : Ending → World → Prop) : Prop :=
  ∀ (b : Nat) (w1 : World),
  New w (Obj.cells #[Value.int IntKind.i64 r_Slot, Value.string r_S] (64 : Nat)) b w1 →
  LoopP
  (fun (s : (Option Addr × Nat × Nat) × Bool × Int) (w' : World) (next : (Option Addr × Nat × Nat) × Bool × Int → World → Prop) ↦
  br (decide (Prod.snd (Prod.snd s) < (↑ln : Int)))
  (JoinP
  (fun (s_1 : Bool) (w' : World) ↦
  br s_1
  (∃ (i : Int),
  ∃ (s_2 : ByteArray),
  Ld Go.Proofs.Try.prog (64 : Nat) w' (Addr.mk b (0 : Nat) none) (Value.agg #[Value.int IntKind.i64 i, Value.string s_2]) ∧
  ∀ (b : Nat) (w1 : World),
  New w' (Obj.cells #[Value.int IntKind.i64 i, Value.string s_2] (64 : Nat)) b w1 →
  ∃ (a : Option Addr),
  ∃ (n : Nat),
  ∃ (m : Nat),
  ∃ (w1_1 : World),
  App Go.Proofs.Try.prog #[(26 : Nat), (26 : Nat)] (26 : Nat) w1
  (Value.slice (Prod.fst (Prod.fst s)) (Prod.fst (Prod.snd (Prod.fst s))) (Prod.snd (Prod.snd (Prod.fst s))))
  (Value.slice (some (Addr.mk b (0 : Nat) none)) (1 : Nat) (1 : Nat)) (Value.slice a n m) w1_1 ∧
  onP la fun (a_1 : Addr) ↦
  ((0 : Int) ≤ Prod.snd (Prod.snd s) ∧ Prod.snd (Prod.snd s) < (↑ln : Int)) ∧
  ∃ (i : Int),
  ∃ (s_3 : ByteArray),
  Ld Go.Proofs.Try.prog (64 : Nat) w1_1 (Addr.add a_1 (Int.toNat (Prod.snd (Prod.snd s)) * (2 : Nat))) (Value.agg #[Value.int IntKind.i64 i, Value.string s_3]) ∧
  ∀ (b : Nat) (w1 : World),
  New w1_1 (Obj.cells #[Value.int IntKind.i64 i, Value.string s_3] (64 : Nat)) b w1 →
  ∃ (a_3 : Option Addr),
  ∃ (n_1 : Nat),
  ∃ (m_1 : Nat),
  ∃ (w1_2 : World),
  App Go.Proofs.Try.prog #[(26 : Nat), (26 : Nat)] (26 : Nat) w1 (Value.slice a n m)
  (Value.slice (some (Addr.mk b (0 : Nat) none)) (1 : Nat) (1 : Nat)) (Value.slice a_3 n_1 m_1) w1_2 ∧
  inR IntKind.i64 (Prod.snd (Prod.snd s) + (1 : Int)) ∧ next ((a_3, n_1, m_1), true, Prod.snd (Prod.snd s) + (1 : Int)) w1_2)
  (onP la fun (a : Addr) ↦
  ((0 : Int) ≤ Prod.snd (Prod.snd s) ∧ Prod.snd (Prod.snd s) < (↑ln : Int)) ∧
  ∃ (i : Int),
  ∃ (s_2 : ByteArray),
  Ld Go.Proofs.Try.prog (64 : Nat) w' (Addr.add a (Int.toNat (Prod.snd (Prod.snd s)) * (2 : Nat))) (Value.agg #[Value.int IntKind.i64 i, Value.string s_2]) ∧
  ∀ (b : Nat) (w1 : World),
  New w' (Obj.cells #[Value.int IntKind.i64 i, Value.string s_2] (64 : Nat)) b w1 →
  ∃ (a : Option Addr),
  ∃ (n : Nat),
  ∃ (m : Nat),
  ∃ (w1_1 : World),
  App Go.Proofs.Try.prog #[(26 : Nat), (26 : Nat)] (26 : Nat) w1
  (Value.slice (Prod.fst (Prod.fst s)) (Prod.fst (Prod.snd (Prod.fst s))) (Prod.snd (Prod.snd (Prod.fst s))))
  (Value.slice (some (Addr.mk b (0 : Nat) none)) (1 : Nat) (1 : Nat)) (Value.slice a n m) w1_1 ∧
  inR IntKind.i64 (Prod.snd (Prod.snd s) + (1 : Int)) ∧ next ((a, n, m), Prod.fst (Prod.snd s), Prod.snd (Prod.snd s) + (1 : Int)) w1_1))
  fun (J : Bool → World → Prop) ↦
  br (!Prod.fst (Prod.snd s))
  (onP la fun (a : Addr) ↦
  ((0 : Int) ≤ Prod.snd (Prod.snd s) ∧ Prod.snd (Prod.snd s) < (↑ln : Int)) ∧
  ∃ (i : Int),
  Ld Go.Proofs.Try.prog (3 : Nat) (World.drew w') (Addr.add a (Int.toNat (Prod.snd (Prod.snd s)) * (2 : Nat))) (Value.int IntKind.i64 i) ∧
  ∃ (i_1 : Int), Ld Go.Proofs.Try.prog (3 : Nat) (World.drew w') (Addr.mk b (0 : Nat) none) (Value.int IntKind.i64 i_1) ∧ J (decide (i_1 < i)) (World.drew w'))
  (J false (World.drew w')))
  (br (!Prod.fst (Prod.snd s))
  (∃ (i : Int),
  ∃ (s_1 : ByteArray),
  Ld Go.Proofs.Try.prog (64 : Nat) w' (Addr.mk b (0 : Nat) none) (Value.agg #[Value.int IntKind.i64 i, Value.string s_1]) ∧
  ∀ (b : Nat) (w1 : World),
  New w' (Obj.cells #[Value.int IntKind.i64 i, Value.string s_1] (64 : Nat)) b w1 →
  ∃ (a : Option Addr),
  ∃ (n : Nat),
  ∃ (m : Nat),
  ∃ (w1_1 : World),
  App Go.Proofs.Try.prog #[(26 : Nat), (26 : Nat)] (26 : Nat) w1 (Value.slice (Prod.fst (Prod.fst s)) (Prod.fst (Prod.snd (Prod.fst s))) (Prod.snd (Prod.snd (Prod.fst s))))
  (Value.slice (some (Addr.mk b (0 : Nat) none)) (1 : Nat) (1 : Nat)) (Value.slice a n m) w1_1 ∧
  R (Ending.returned (Value.slice a n m)) w1_1)
  (R (Ending.returned (Value.slice (Prod.fst (Prod.fst s)) (Prod.fst (Prod.snd (Prod.fst s))) (Prod.snd (Prod.snd (Prod.fst s))))) w')))
  ((none, (0 : Nat), (0 : Nat)), false, (0 : Int)) w1
theorem rwith.eq (la : Option Addr) (ln : Nat) (lc : Nat) (r_Slot : Int) (r_S : ByteArray) (w : World) (R : Ending → World → Prop) : bodyV Go.Proofs.Try.prog rwith.an Go.Proofs.Try.f37 [.slice la ln lc, .agg #[.int .i64 r_Slot, .string r_S]] w R = rwith.vc la ln lc r_Slot r_S w R := by kernel_rfl
theorem rwith.ok (la : Option Addr) (ln : Nat) (lc : Nat) (r_Slot : Int) (r_S : ByteArray) (w : World) (R : Ending → World → Prop) (h : rwith.vc la ln lc r_Slot r_S w R) : Calls Go.Proofs.Try.prog 37 #[.slice la ln lc, .agg #[.int .i64 r_Slot, .string r_S]] w R :=
  calls_of_bodyV noNum (an := rwith.an) (args := [.slice la ln lc, .agg #[.int .i64 r_Slot, .string r_S]]) Go.Proofs.Try.func37 (by kernel_rfl) ((rwith.eq la ln lc r_Slot r_S w R).mpr h)

/-- incunable/incunableref11.Put -/
def rput.an : An := { wraps := [], loops := [], joins := [], ranges := [] }
def rput.vc (p_La : Option Addr) (p_Ln : Nat) (p_Lc : Nat) (p_Stamp : Int) (slot : Int) (s : ByteArray) (w : World) (R : Ending → World → Prop) : Prop :=
  ∀ (b : Nat) (w1 : World),
  New w (Obj.cells #[Value.slice p_La p_Ln p_Lc, Value.int IntKind.i64 p_Stamp] (28 : Nat)) b w1 →
  ∀ (b_1 : Nat) (w1_1 : World),
  New w1 (Obj.cells #[Value.slice none (0 : Nat) (0 : Nat), Value.int IntKind.i64 (0 : Int)] (28 : Nat)) b_1 w1_1 →
  br (decide (slot < (0 : Int)))
  (∃ (a : Option Addr),
  ∃ (l : Nat),
  ∃ (c : Nat),
  ∃ (i : Int),
  Ld Go.Proofs.Try.prog (28 : Nat) w1_1 (Addr.mk b (0 : Nat) none) (Value.agg #[Value.slice a l c, Value.int IntKind.i64 i]) ∧
  ∃ (w1 : World),
  St Go.Proofs.Try.prog (28 : Nat) w1_1 (Addr.mk b_1 (0 : Nat) none) (Value.agg #[Value.slice a l c, Value.int IntKind.i64 i]) w1 ∧
  ∃ (a : Option Addr),
  ∃ (l : Nat),
  ∃ (c : Nat),
  ∃ (i : Int),
  Ld Go.Proofs.Try.prog (28 : Nat) w1 (Addr.mk b_1 (0 : Nat) none) (Value.agg #[Value.slice a l c, Value.int IntKind.i64 i]) ∧
  R (Ending.returned (Value.tuple #[Value.agg #[Value.slice a l c, Value.int IntKind.i64 i], Value.int IntKind.i64 (110 : Int)])) w1)
  (br (decide ((120 : Int) ≤ slot))
  (∃ (a : Option Addr),
  ∃ (l : Nat),
  ∃ (c : Nat),
  ∃ (i : Int),
  Ld Go.Proofs.Try.prog (28 : Nat) w1_1 (Addr.mk b (0 : Nat) none) (Value.agg #[Value.slice a l c, Value.int IntKind.i64 i]) ∧
  ∃ (w1 : World),
  St Go.Proofs.Try.prog (28 : Nat) w1_1 (Addr.mk b_1 (0 : Nat) none) (Value.agg #[Value.slice a l c, Value.int IntKind.i64 i]) w1 ∧
  ∃ (a : Option Addr),
  ∃ (l : Nat),
  ∃ (c : Nat),
  ∃ (i : Int),
  Ld Go.Proofs.Try.prog (28 : Nat) w1 (Addr.mk b_1 (0 : Nat) none) (Value.agg #[Value.slice a l c, Value.int IntKind.i64 i]) ∧
  R (Ending.returned (Value.tuple #[Value.agg #[Value.slice a l c, Value.int IntKind.i64 i], Value.int IntKind.i64 (110 : Int)])) w1)
  ((∃ (a : Option Addr),
  ∃ (l : Nat),
  ∃ (c : Nat),
  Ld Go.Proofs.Try.prog (26 : Nat) (World.drew w1_1) (Addr.mk b (0 : Nat) none) (Value.slice a l c) ∧
  ∃ (i : Int),
  Ld Go.Proofs.Try.prog (3 : Nat) (World.drew w1_1) (Addr.mk b (1 : Nat) none) (Value.int IntKind.i64 i) ∧
  CallV Go.Proofs.Try.prog (36 : Nat) [Value.slice a l c, Value.int IntKind.i64 slot] (World.drew w1_1) fun (e : Ending) (w' : World) ↦
  ∃ (a : Option Addr),
  ∃ (l : Nat),
  ∃ (c : Nat),
  e = Ending.returned (Value.slice a l c) ∧
  Ld Go.Proofs.Try.prog (3 : Nat) w' (Addr.mk b (1 : Nat) none) (Value.int IntKind.i64 i) ∧
  ∀ (b_2 : Nat) (w1 : World),
  New w' (Obj.cells #[Value.slice none (0 : Nat) (0 : Nat), Value.int IntKind.i64 (0 : Int)] (28 : Nat)) b_2 w1 →
  Ld Go.Proofs.Try.prog (3 : Nat) w1 (Addr.mk b (1 : Nat) none) (Value.int IntKind.i64 i) ∧
  ∃ (w1_2 : World),
  St Go.Proofs.Try.prog (28 : Nat) w1 (Addr.mk b_2 (0 : Nat) none) (Value.agg #[Value.slice a l c, Value.int IntKind.i64 i]) w1_2 ∧
  ∃ (a : Option Addr),
  ∃ (l : Nat),
  ∃ (c : Nat),
  ∃ (i : Int),
  Ld Go.Proofs.Try.prog (28 : Nat) w1_2 (Addr.mk b_2 (0 : Nat) none) (Value.agg #[Value.slice a l c, Value.int IntKind.i64 i]) ∧
  CallV Go.Proofs.Try.prog (24 : Nat) [Value.agg #[Value.slice a l c, Value.int IntKind.i64 i]] w1_2 fun (e : Ending) (w' : World) ↦
  ∃ (i : Int),
  e = Ending.returned (Value.int IntKind.i64 i) ∧
  br (decide (i < (↑(ByteArray.size s) : Int)))
  (∃ (a : Option Addr),
  ∃ (l : Nat),
  ∃ (c : Nat),
  ∃ (i : Int),
  Ld Go.Proofs.Try.prog (28 : Nat) w' (Addr.mk b (0 : Nat) none) (Value.agg #[Value.slice a l c, Value.int IntKind.i64 i]) ∧
  ∃ (w1 : World),
  St Go.Proofs.Try.prog (28 : Nat) w' (Addr.mk b_1 (0 : Nat) none) (Value.agg #[Value.slice a l c, Value.int IntKind.i64 i])
  w1 ∧
  ∃ (a : Option Addr),
  ∃ (l : Nat),
  ∃ (c : Nat),
  ∃ (i : Int),
  Ld Go.Proofs.Try.prog (28 : Nat) w1 (Addr.mk b_1 (0 : Nat) none)
  (Value.agg #[Value.slice a l c, Value.int IntKind.i64 i]) ∧
  R
  (Ending.returned
  (Value.tuple
  #[Value.agg #[Value.slice a l c, Value.int IntKind.i64 i], Value.int IntKind.i64 (111 : Int)]))
  w1)
  (∃ (a : Option Addr),
  ∃ (l : Nat),
  ∃ (c : Nat),
  Ld Go.Proofs.Try.prog (26 : Nat) w' (Addr.mk b_2 (0 : Nat) none) (Value.slice a l c) ∧
  CallV Go.Proofs.Try.prog (37 : Nat) [Value.slice a l c, Value.agg #[Value.int IntKind.i64 slot, Value.string s]] w'
  fun (e : Ending) (w' : World) ↦
  ∃ (a : Option Addr),
  ∃ (l : Nat),
  ∃ (c : Nat),
  e = Ending.returned (Value.slice a l c) ∧
  ∃ (w1 : World),
  St Go.Proofs.Try.prog (26 : Nat) w' (Addr.mk b_2 (0 : Nat) none) (Value.slice a l c) w1 ∧
  ∃ (a : Option Addr),
  ∃ (l : Nat),
  ∃ (c : Nat),
  ∃ (i : Int),
  Ld Go.Proofs.Try.prog (28 : Nat) w1 (Addr.mk b_2 (0 : Nat) none)
  (Value.agg #[Value.slice a l c, Value.int IntKind.i64 i]) ∧
  ∃ (w1_3 : World),
  St Go.Proofs.Try.prog (28 : Nat) w1 (Addr.mk b_1 (0 : Nat) none)
  (Value.agg #[Value.slice a l c, Value.int IntKind.i64 i]) w1_3 ∧
  ∃ (a : Option Addr),
  ∃ (l : Nat),
  ∃ (c : Nat),
  ∃ (i : Int),
  Ld Go.Proofs.Try.prog (28 : Nat) w1_3 (Addr.mk b_1 (0 : Nat) none)
  (Value.agg #[Value.slice a l c, Value.int IntKind.i64 i]) ∧
  R
  (Ending.returned
  (Value.tuple
  #[Value.agg #[Value.slice a l c, Value.int IntKind.i64 i],
  Value.int IntKind.i64 (0 : Int)]))
  w1_3)) ∧
  ∃ (a : Option Addr),
  ∃ (l : Nat),
  ∃ (c : Nat),
  Ld Go.Proofs.Try.prog (26 : Nat) (World.drew w1_1) (Addr.mk b (0 : Nat) none) (Value.slice a l c) ∧
  ∃ (i : Int),
  Ld Go.Proofs.Try.prog (3 : Nat) (World.drew w1_1) (Addr.mk b (1 : Nat) none) (Value.int IntKind.i64 i) ∧
  ∀ (b_2 : Nat) (w1 : World),
  New (World.drew w1_1) (Obj.cells #[Value.slice none (0 : Nat) (0 : Nat), Value.int IntKind.i64 (0 : Int)] (28 : Nat)) b_2 w1 →
  Ld Go.Proofs.Try.prog (3 : Nat) w1 (Addr.mk b (1 : Nat) none) (Value.int IntKind.i64 i) ∧
  Ld Go.Proofs.Try.prog (26 : Nat) w1 (Addr.mk b (0 : Nat) none) (Value.slice a l c) ∧
  CallV Go.Proofs.Try.prog (36 : Nat) [Value.slice a l c, Value.int IntKind.i64 slot] w1 fun (e : Ending) (w' : World) ↦
  ∃ (a : Option Addr),
  ∃ (l : Nat),
  ∃ (c : Nat),
  e = Ending.returned (Value.slice a l c) ∧
  Ld Go.Proofs.Try.prog (3 : Nat) w' (Addr.mk b (1 : Nat) none) (Value.int IntKind.i64 i) ∧
  ∃ (w1 : World),
  St Go.Proofs.Try.prog (28 : Nat) w' (Addr.mk b_2 (0 : Nat) none) (Value.agg #[Value.slice a l c, Value.int IntKind.i64 i]) w1 ∧
  ∃ (a : Option Addr),
  ∃ (l : Nat),
  ∃ (c : Nat),
  ∃ (i : Int),
  Ld Go.Proofs.Try.prog (28 : Nat) w1 (Addr.mk b_2 (0 : Nat) none) (Value.agg #[Value.slice a l c, Value.int IntKind.i64 i]) ∧
  CallV Go.Proofs.Try.prog (24 : Nat) [Value.agg #[Value.slice a l c, Value.int IntKind.i64 i]] w1 fun (e : Ending) (w' : World) ↦
  ∃ (i : Int),
  e = Ending.returned (Value.int IntKind.i64 i) ∧
  br (decide (i < (↑(ByteArray.size s) : Int)))
  (∃ (a : Option Addr),
  ∃ (l : Nat),
  ∃ (c : Nat),
  ∃ (i : Int),
  Ld Go.Proofs.Try.prog (28 : Nat) w' (Addr.mk b (0 : Nat) none) (Value.agg #[Value.slice a l c, Value.int IntKind.i64 i]) ∧
  ∃ (w1 : World),
  St Go.Proofs.Try.prog (28 : Nat) w' (Addr.mk b_1 (0 : Nat) none) (Value.agg #[Value.slice a l c, Value.int IntKind.i64 i])
  w1 ∧
  ∃ (a : Option Addr),
  ∃ (l : Nat),
  ∃ (c : Nat),
  ∃ (i : Int),
  Ld Go.Proofs.Try.prog (28 : Nat) w1 (Addr.mk b_1 (0 : Nat) none)
  (Value.agg #[Value.slice a l c, Value.int IntKind.i64 i]) ∧
  R
  (Ending.returned
  (Value.tuple
  #[Value.agg #[Value.slice a l c, Value.int IntKind.i64 i], Value.int IntKind.i64 (111 : Int)]))
  w1)
  (∃ (a : Option Addr),
  ∃ (l : Nat),
  ∃ (c : Nat),
  Ld Go.Proofs.Try.prog (26 : Nat) w' (Addr.mk b_2 (0 : Nat) none) (Value.slice a l c) ∧
  CallV Go.Proofs.Try.prog (37 : Nat) [Value.slice a l c, Value.agg #[Value.int IntKind.i64 slot, Value.string s]] w'
  fun (e : Ending) (w' : World) ↦
  ∃ (a : Option Addr),
  ∃ (l : Nat),
  ∃ (c : Nat),
  e = Ending.returned (Value.slice a l c) ∧
  ∃ (w1 : World),
  St Go.Proofs.Try.prog (26 : Nat) w' (Addr.mk b_2 (0 : Nat) none) (Value.slice a l c) w1 ∧
  ∃ (a : Option Addr),
  ∃ (l : Nat),
  ∃ (c : Nat),
  ∃ (i : Int),
  Ld Go.Proofs.Try.prog (28 : Nat) w1 (Addr.mk b_2 (0 : Nat) none)
  (Value.agg #[Value.slice a l c, Value.int IntKind.i64 i]) ∧
  ∃ (w1_2 : World),
  St Go.Proofs.Try.prog (28 : Nat) w1 (Addr.mk b_1 (0 : Nat) none)
  (Value.agg #[Value.slice a l c, Value.int IntKind.i64 i]) w1_2 ∧
  ∃ (a : Option Addr),
  ∃ (l : Nat),
  ∃ (c : Nat),
  ∃ (i : Int),
  Ld Go.Proofs.Try.prog (28 : Nat) w1_2 (Addr.mk b_1 (0 : Nat) none)
  (Value.agg #[Value.slice a l c, Value.int IntKind.i64 i]) ∧
  R
  (Ending.returned
  (Value.tuple
  #[Value.agg #[Value.slice a l c, Value.int IntKind.i64 i],
  Value.int IntKind.i64 (0 : Int)]))
  w1_2)))
theorem rput.eq (p_La : Option Addr) (p_Ln : Nat) (p_Lc : Nat) (p_Stamp : Int) (slot : Int) (s : ByteArray) (w : World) (R : Ending → World → Prop) : bodyV Go.Proofs.Try.prog rput.an Go.Proofs.Try.f31 [.agg #[.slice p_La p_Ln p_Lc, .int .i64 p_Stamp], .int .i64 slot, .string s] w R = rput.vc p_La p_Ln p_Lc p_Stamp slot s w R := by kernel_rfl
theorem rput.ok (p_La : Option Addr) (p_Ln : Nat) (p_Lc : Nat) (p_Stamp : Int) (slot : Int) (s : ByteArray) (w : World) (R : Ending → World → Prop) (h : rput.vc p_La p_Ln p_Lc p_Stamp slot s w R) : Calls Go.Proofs.Try.prog 31 #[.agg #[.slice p_La p_Ln p_Lc, .int .i64 p_Stamp], .int .i64 slot, .string s] w R :=
  calls_of_bodyV noNum (an := rput.an) (args := [.agg #[.slice p_La p_Ln p_Lc, .int .i64 p_Stamp], .int .i64 slot, .string s]) Go.Proofs.Try.func31 (by kernel_rfl) ((rput.eq p_La p_Ln p_Lc p_Stamp slot s w R).mpr h)

/-- incunable/incunableref11.Insert -/
def rinsert.an : An := { wraps := [], loops := [(2, [(7, .inl .i64)])], joins := [], ranges := [] }
def rinsert.vc (p_La : Option Addr) (p_Ln : Nat) (p_Lc : Nat) (p_Stamp : Int) (s : ByteArray) (w : World) (R : Ending → World → Prop) : Prop :=
  ∀ (b : Nat) (w1 : World),
  New w (Obj.cells #[Value.slice p_La p_Ln p_Lc, Value.int IntKind.i64 p_Stamp] (28 : Nat)) b w1 →
  ∀ (b_1 : Nat) (w1_1 : World),
  New w1 (Obj.cells #[Value.slice none (0 : Nat) (0 : Nat), Value.int IntKind.i64 (0 : Int)] (28 : Nat)) b_1 w1_1 →
  LoopP
  (fun (s_1 : Int) (w' : World) (next : Int → World → Prop) ↦
  br (decide (s_1 < (120 : Int)))
  (∃ (a : Option Addr),
  ∃ (l : Nat),
  ∃ (c : Nat),
  ∃ (i : Int),
  Ld Go.Proofs.Try.prog (28 : Nat) w' (Addr.mk b (0 : Nat) none) (Value.agg #[Value.slice a l c, Value.int IntKind.i64 i]) ∧
  CallV Go.Proofs.Try.prog (35 : Nat) [Value.agg #[Value.slice a l c, Value.int IntKind.i64 i], Value.int IntKind.i64 s_1] w' fun (e : Ending) (w' : World) ↦
  ∃ (s_2 : ByteArray),
  ∃ (b_2 : Bool),
  e = Ending.returned (Value.tuple #[Value.string s_2, Value.bool b_2]) ∧
  br (!b_2)
  (∃ (a : Option Addr),
  ∃ (l : Nat),
  ∃ (c : Nat),
  ∃ (i : Int),
  Ld Go.Proofs.Try.prog (28 : Nat) w' (Addr.mk b (0 : Nat) none) (Value.agg #[Value.slice a l c, Value.int IntKind.i64 i]) ∧
  CallV Go.Proofs.Try.prog (31 : Nat) [Value.agg #[Value.slice a l c, Value.int IntKind.i64 i], Value.int IntKind.i64 s_1, Value.string s] w'
  fun (e : Ending) (w' : World) ↦
  ∃ (a : Option Addr),
  ∃ (l : Nat),
  ∃ (c : Nat),
  ∃ (i : Int),
  ∃ (i_1 : Int),
  e = Ending.returned (Value.tuple #[Value.agg #[Value.slice a l c, Value.int IntKind.i64 i], Value.int IntKind.i64 i_1]) ∧
  ∀ (b_3 : Nat) (w1 : World),
  New w' (Obj.cells #[Value.slice none (0 : Nat) (0 : Nat), Value.int IntKind.i64 (0 : Int)] (28 : Nat)) b_3 w1 →
  ∃ (w1_2 : World),
  St Go.Proofs.Try.prog (28 : Nat) w1 (Addr.mk b_3 (0 : Nat) none) (Value.agg #[Value.slice a l c, Value.int IntKind.i64 i]) w1_2 ∧
  br (!decide (i_1 = (0 : Int)))
  (∃ (a : Option Addr),
  ∃ (l : Nat),
  ∃ (c : Nat),
  ∃ (i : Int),
  Ld Go.Proofs.Try.prog (28 : Nat) w1_2 (Addr.mk b (0 : Nat) none) (Value.agg #[Value.slice a l c, Value.int IntKind.i64 i]) ∧
  ∃ (w1 : World),
  St Go.Proofs.Try.prog (28 : Nat) w1_2 (Addr.mk b_1 (0 : Nat) none)
  (Value.agg #[Value.slice a l c, Value.int IntKind.i64 i]) w1 ∧
  ∃ (a : Option Addr),
  ∃ (l : Nat),
  ∃ (c : Nat),
  ∃ (i : Int),
  Ld Go.Proofs.Try.prog (28 : Nat) w1 (Addr.mk b_1 (0 : Nat) none)
  (Value.agg #[Value.slice a l c, Value.int IntKind.i64 i]) ∧
  R
  (Ending.returned
  (Value.tuple
  #[Value.agg #[Value.slice a l c, Value.int IntKind.i64 i], Value.int IntKind.i64 (0 : Int),
  Value.int IntKind.i64 i_1]))
  w1)
  (∃ (a : Option Addr),
  ∃ (l : Nat),
  ∃ (c : Nat),
  ∃ (i : Int),
  Ld Go.Proofs.Try.prog (28 : Nat) w1_2 (Addr.mk b_3 (0 : Nat) none) (Value.agg #[Value.slice a l c, Value.int IntKind.i64 i]) ∧
  ∃ (w1 : World),
  St Go.Proofs.Try.prog (28 : Nat) w1_2 (Addr.mk b_1 (0 : Nat) none)
  (Value.agg #[Value.slice a l c, Value.int IntKind.i64 i]) w1 ∧
  ∃ (a : Option Addr),
  ∃ (l : Nat),
  ∃ (c : Nat),
  ∃ (i : Int),
  Ld Go.Proofs.Try.prog (28 : Nat) w1 (Addr.mk b_1 (0 : Nat) none)
  (Value.agg #[Value.slice a l c, Value.int IntKind.i64 i]) ∧
  R
  (Ending.returned
  (Value.tuple
  #[Value.agg #[Value.slice a l c, Value.int IntKind.i64 i], Value.int IntKind.i64 s_1,
  Value.int IntKind.i64 (0 : Int)]))
  w1))
  (inR IntKind.i64 (s_1 + (1 : Int)) ∧ next (s_1 + (1 : Int)) w'))
  (∃ (a : Option Addr),
  ∃ (l : Nat),
  ∃ (c : Nat),
  ∃ (i : Int),
  Ld Go.Proofs.Try.prog (28 : Nat) w' (Addr.mk b (0 : Nat) none) (Value.agg #[Value.slice a l c, Value.int IntKind.i64 i]) ∧
  ∃ (w1 : World),
  St Go.Proofs.Try.prog (28 : Nat) w' (Addr.mk b_1 (0 : Nat) none) (Value.agg #[Value.slice a l c, Value.int IntKind.i64 i]) w1 ∧
  ∃ (a : Option Addr),
  ∃ (l : Nat),
  ∃ (c : Nat),
  ∃ (i : Int),
  Ld Go.Proofs.Try.prog (28 : Nat) w1 (Addr.mk b_1 (0 : Nat) none) (Value.agg #[Value.slice a l c, Value.int IntKind.i64 i]) ∧
  R (Ending.returned (Value.tuple #[Value.agg #[Value.slice a l c, Value.int IntKind.i64 i], Value.int IntKind.i64 (0 : Int), Value.int IntKind.i64 (111 : Int)]))
  w1))
  (0 : Int) w1_1
theorem rinsert.eq (p_La : Option Addr) (p_Ln : Nat) (p_Lc : Nat) (p_Stamp : Int) (s : ByteArray) (w : World) (R : Ending → World → Prop) : bodyV Go.Proofs.Try.prog rinsert.an Go.Proofs.Try.f30 [.agg #[.slice p_La p_Ln p_Lc, .int .i64 p_Stamp], .string s] w R = rinsert.vc p_La p_Ln p_Lc p_Stamp s w R := by kernel_rfl
theorem rinsert.ok (p_La : Option Addr) (p_Ln : Nat) (p_Lc : Nat) (p_Stamp : Int) (s : ByteArray) (w : World) (R : Ending → World → Prop) (h : rinsert.vc p_La p_Ln p_Lc p_Stamp s w R) : Calls Go.Proofs.Try.prog 30 #[.agg #[.slice p_La p_Ln p_Lc, .int .i64 p_Stamp], .string s] w R :=
  calls_of_bodyV noNum (an := rinsert.an) (args := [.agg #[.slice p_La p_Ln p_Lc, .int .i64 p_Stamp], .string s]) Go.Proofs.Try.func30 (by kernel_rfl) ((rinsert.eq p_La p_Ln p_Lc p_Stamp s w R).mpr h)

/-- incunable/incunableref11.Delete -/
def rdelete.an : An := { wraps := [], loops := [], joins := [], ranges := [] }
def rdelete.vc (p_La : Option Addr) (p_Ln : Nat) (p_Lc : Nat) (p_Stamp : Int) (slot : Int) (w : World) (R : Ending → World → Prop) : Prop :=
  ∀ (b : Nat) (w1 : World),
  New w (Obj.cells #[Value.slice p_La p_Ln p_Lc, Value.int IntKind.i64 p_Stamp] (28 : Nat)) b w1 →
  ∀ (b_1 : Nat) (w1_1 : World),
  New w1 (Obj.cells #[Value.slice none (0 : Nat) (0 : Nat), Value.int IntKind.i64 (0 : Int)] (28 : Nat)) b_1 w1_1 →
  ∃ (a : Option Addr),
  ∃ (l : Nat),
  ∃ (c : Nat),
  ∃ (i : Int),
  Ld Go.Proofs.Try.prog (28 : Nat) w1_1 (Addr.mk b (0 : Nat) none) (Value.agg #[Value.slice a l c, Value.int IntKind.i64 i]) ∧
  CallV Go.Proofs.Try.prog (35 : Nat) [Value.agg #[Value.slice a l c, Value.int IntKind.i64 i], Value.int IntKind.i64 slot] w1_1 fun (e : Ending) (w' : World) ↦
  ∃ (s : ByteArray),
  ∃ (b_2 : Bool),
  e = Ending.returned (Value.tuple #[Value.string s, Value.bool b_2]) ∧
  br (!b_2)
  (∃ (a : Option Addr),
  ∃ (l : Nat),
  ∃ (c : Nat),
  ∃ (i : Int),
  Ld Go.Proofs.Try.prog (28 : Nat) w' (Addr.mk b (0 : Nat) none) (Value.agg #[Value.slice a l c, Value.int IntKind.i64 i]) ∧
  ∃ (w1 : World),
  St Go.Proofs.Try.prog (28 : Nat) w' (Addr.mk b_1 (0 : Nat) none) (Value.agg #[Value.slice a l c, Value.int IntKind.i64 i]) w1 ∧
  ∃ (a : Option Addr),
  ∃ (l : Nat),
  ∃ (c : Nat),
  ∃ (i : Int),
  Ld Go.Proofs.Try.prog (28 : Nat) w1 (Addr.mk b_1 (0 : Nat) none) (Value.agg #[Value.slice a l c, Value.int IntKind.i64 i]) ∧
  R (Ending.returned (Value.tuple #[Value.agg #[Value.slice a l c, Value.int IntKind.i64 i], Value.int IntKind.i64 (110 : Int)])) w1)
  (∃ (a : Option Addr),
  ∃ (l : Nat),
  ∃ (c : Nat),
  Ld Go.Proofs.Try.prog (26 : Nat) w' (Addr.mk b (0 : Nat) none) (Value.slice a l c) ∧
  CallV Go.Proofs.Try.prog (36 : Nat) [Value.slice a l c, Value.int IntKind.i64 slot] w' fun (e : Ending) (w' : World) ↦
  ∃ (a : Option Addr),
  ∃ (l : Nat),
  ∃ (c : Nat),
  e = Ending.returned (Value.slice a l c) ∧
  ∃ (w1 : World),
  St Go.Proofs.Try.prog (26 : Nat) w' (Addr.mk b (0 : Nat) none) (Value.slice a l c) w1 ∧
  ∃ (a : Option Addr),
  ∃ (l : Nat),
  ∃ (c : Nat),
  ∃ (i : Int),
  Ld Go.Proofs.Try.prog (28 : Nat) w1 (Addr.mk b (0 : Nat) none) (Value.agg #[Value.slice a l c, Value.int IntKind.i64 i]) ∧
  ∃ (w1_2 : World),
  St Go.Proofs.Try.prog (28 : Nat) w1 (Addr.mk b_1 (0 : Nat) none) (Value.agg #[Value.slice a l c, Value.int IntKind.i64 i]) w1_2 ∧
  ∃ (a : Option Addr),
  ∃ (l : Nat),
  ∃ (c : Nat),
  ∃ (i : Int),
  Ld Go.Proofs.Try.prog (28 : Nat) w1_2 (Addr.mk b_1 (0 : Nat) none) (Value.agg #[Value.slice a l c, Value.int IntKind.i64 i]) ∧
  R (Ending.returned (Value.tuple #[Value.agg #[Value.slice a l c, Value.int IntKind.i64 i], Value.int IntKind.i64 (0 : Int)]))
  w1_2)
theorem rdelete.eq (p_La : Option Addr) (p_Ln : Nat) (p_Lc : Nat) (p_Stamp : Int) (slot : Int) (w : World) (R : Ending → World → Prop) : bodyV Go.Proofs.Try.prog rdelete.an Go.Proofs.Try.f32 [.agg #[.slice p_La p_Ln p_Lc, .int .i64 p_Stamp], .int .i64 slot] w R = rdelete.vc p_La p_Ln p_Lc p_Stamp slot w R := by kernel_rfl
theorem rdelete.ok (p_La : Option Addr) (p_Ln : Nat) (p_Lc : Nat) (p_Stamp : Int) (slot : Int) (w : World) (R : Ending → World → Prop) (h : rdelete.vc p_La p_Ln p_Lc p_Stamp slot w R) : Calls Go.Proofs.Try.prog 32 #[.agg #[.slice p_La p_Ln p_Lc, .int .i64 p_Stamp], .int .i64 slot] w R :=
  calls_of_bodyV noNum (an := rdelete.an) (args := [.agg #[.slice p_La p_Ln p_Lc, .int .i64 p_Stamp], .int .i64 slot]) Go.Proofs.Try.func32 (by kernel_rfl) ((rdelete.eq p_La p_Ln p_Lc p_Stamp slot w R).mpr h)

/-- incunable/incunableref11.Do -/
def rdo.an : An := { wraps := [], loops := [], joins := [], ranges := [] }
def rdo.vc (p_La : Option Addr) (p_Ln : Nat) (p_Lc : Nat) (p_Stamp : Int) (o_Kind : Int) (o_Slot : Int) (o_N : Int) (o_S : ByteArray) (w : World) (R : Ending → World → Prop) : Prop :=
  ∀ (b : Nat) (w1 : World),
  New w (Obj.cells #[Value.slice p_La p_Ln p_Lc, Value.int IntKind.i64 p_Stamp] (28 : Nat)) b w1 →
  ∀ (b_1 : Nat) (w1_1 : World),
  New w1 (Obj.cells #[Value.int IntKind.i64 o_Kind, Value.int IntKind.i64 o_Slot, Value.int IntKind.i64 o_N, Value.string o_S] (43 : Nat)) b_1 w1_1 →
  ∀ (b_2 : Nat) (w1 : World),
  New w1_1 (Obj.cells #[Value.slice none (0 : Nat) (0 : Nat), Value.int IntKind.i64 (0 : Int)] (28 : Nat)) b_2 w1 →
  ∃ (i : Int),
  Ld Go.Proofs.Try.prog (3 : Nat) w1 (Addr.mk b_1 (0 : Nat) none) (Value.int IntKind.i64 i) ∧
  br (decide (i = (0 : Int)))
  (∃ (a : Option Addr),
  ∃ (l : Nat),
  ∃ (c : Nat),
  ∃ (i : Int),
  Ld Go.Proofs.Try.prog (28 : Nat) w1 (Addr.mk b (0 : Nat) none) (Value.agg #[Value.slice a l c, Value.int IntKind.i64 i]) ∧
  ∃ (s : ByteArray),
  Ld Go.Proofs.Try.prog (9 : Nat) w1 (Addr.mk b_1 (3 : Nat) none) (Value.string s) ∧
  CallV Go.Proofs.Try.prog (30 : Nat) [Value.agg #[Value.slice a l c, Value.int IntKind.i64 i], Value.string s] w1 fun (e : Ending) (w' : World) ↦
  ∃ (a : Option Addr),
  ∃ (l : Nat),
  ∃ (c : Nat),
  ∃ (i : Int),
  ∃ (i_1 : Int),
  ∃ (i_2 : Int),
  e = Ending.returned (Value.tuple #[Value.agg #[Value.slice a l c, Value.int IntKind.i64 i], Value.int IntKind.i64 i_1, Value.int IntKind.i64 i_2]) ∧
  ∃ (w1 : World),
  St Go.Proofs.Try.prog (28 : Nat) w' (Addr.mk b_2 (0 : Nat) none) (Value.agg #[Value.slice a l c, Value.int IntKind.i64 i]) w1 ∧
  ∃ (a : Option Addr),
  ∃ (l : Nat),
  ∃ (c : Nat),
  ∃ (i : Int),
  Ld Go.Proofs.Try.prog (28 : Nat) w1 (Addr.mk b_2 (0 : Nat) none) (Value.agg #[Value.slice a l c, Value.int IntKind.i64 i]) ∧
  R
  (Ending.returned
  (Value.tuple #[Value.agg #[Value.slice a l c, Value.int IntKind.i64 i], Value.int IntKind.i64 i_1, Value.int IntKind.i64 i_2]))
  w1)
  (br (decide (i = (1 : Int)))
  (∃ (a : Option Addr),
  ∃ (l : Nat),
  ∃ (c : Nat),
  ∃ (i : Int),
  Ld Go.Proofs.Try.prog (28 : Nat) w1 (Addr.mk b (0 : Nat) none) (Value.agg #[Value.slice a l c, Value.int IntKind.i64 i]) ∧
  ∃ (i_1 : Int),
  Ld Go.Proofs.Try.prog (3 : Nat) w1 (Addr.mk b_1 (1 : Nat) none) (Value.int IntKind.i64 i_1) ∧
  ∃ (s : ByteArray),
  Ld Go.Proofs.Try.prog (9 : Nat) w1 (Addr.mk b_1 (3 : Nat) none) (Value.string s) ∧
  CallV Go.Proofs.Try.prog (31 : Nat) [Value.agg #[Value.slice a l c, Value.int IntKind.i64 i], Value.int IntKind.i64 i_1, Value.string s] w1
  fun (e : Ending) (w' : World) ↦
  ∃ (a : Option Addr),
  ∃ (l : Nat),
  ∃ (c : Nat),
  ∃ (i : Int),
  ∃ (i_2 : Int),
  e = Ending.returned (Value.tuple #[Value.agg #[Value.slice a l c, Value.int IntKind.i64 i], Value.int IntKind.i64 i_2]) ∧
  ∀ (b : Nat) (w1 : World),
  New w' (Obj.cells #[Value.slice none (0 : Nat) (0 : Nat), Value.int IntKind.i64 (0 : Int)] (28 : Nat)) b w1 →
  ∃ (w1_2 : World),
  St Go.Proofs.Try.prog (28 : Nat) w1 (Addr.mk b (0 : Nat) none) (Value.agg #[Value.slice a l c, Value.int IntKind.i64 i]) w1_2 ∧
  ∃ (a : Option Addr),
  ∃ (l : Nat),
  ∃ (c : Nat),
  ∃ (i : Int),
  Ld Go.Proofs.Try.prog (28 : Nat) w1_2 (Addr.mk b (0 : Nat) none) (Value.agg #[Value.slice a l c, Value.int IntKind.i64 i]) ∧
  ∃ (w1 : World),
  St Go.Proofs.Try.prog (28 : Nat) w1_2 (Addr.mk b_2 (0 : Nat) none) (Value.agg #[Value.slice a l c, Value.int IntKind.i64 i]) w1 ∧
  ∃ (a : Option Addr),
  ∃ (l : Nat),
  ∃ (c : Nat),
  ∃ (i : Int),
  Ld Go.Proofs.Try.prog (28 : Nat) w1 (Addr.mk b_2 (0 : Nat) none)
  (Value.agg #[Value.slice a l c, Value.int IntKind.i64 i]) ∧
  R
  (Ending.returned
  (Value.tuple
  #[Value.agg #[Value.slice a l c, Value.int IntKind.i64 i], Value.int IntKind.i64 (0 : Int),
  Value.int IntKind.i64 i_2]))
  w1)
  (br (decide (i = (2 : Int)))
  (∃ (a : Option Addr),
  ∃ (l : Nat),
  ∃ (c : Nat),
  ∃ (i : Int),
  Ld Go.Proofs.Try.prog (28 : Nat) w1 (Addr.mk b (0 : Nat) none) (Value.agg #[Value.slice a l c, Value.int IntKind.i64 i]) ∧
  ∃ (i_1 : Int),
  Ld Go.Proofs.Try.prog (3 : Nat) w1 (Addr.mk b_1 (1 : Nat) none) (Value.int IntKind.i64 i_1) ∧
  CallV Go.Proofs.Try.prog (32 : Nat) [Value.agg #[Value.slice a l c, Value.int IntKind.i64 i], Value.int IntKind.i64 i_1] w1 fun (e : Ending) (w' : World) ↦
  ∃ (a : Option Addr),
  ∃ (l : Nat),
  ∃ (c : Nat),
  ∃ (i : Int),
  ∃ (i_2 : Int),
  e = Ending.returned (Value.tuple #[Value.agg #[Value.slice a l c, Value.int IntKind.i64 i], Value.int IntKind.i64 i_2]) ∧
  ∀ (b : Nat) (w1 : World),
  New w' (Obj.cells #[Value.slice none (0 : Nat) (0 : Nat), Value.int IntKind.i64 (0 : Int)] (28 : Nat)) b w1 →
  ∃ (w1_2 : World),
  St Go.Proofs.Try.prog (28 : Nat) w1 (Addr.mk b (0 : Nat) none) (Value.agg #[Value.slice a l c, Value.int IntKind.i64 i]) w1_2 ∧
  ∃ (a : Option Addr),
  ∃ (l : Nat),
  ∃ (c : Nat),
  ∃ (i : Int),
  Ld Go.Proofs.Try.prog (28 : Nat) w1_2 (Addr.mk b (0 : Nat) none) (Value.agg #[Value.slice a l c, Value.int IntKind.i64 i]) ∧
  ∃ (w1 : World),
  St Go.Proofs.Try.prog (28 : Nat) w1_2 (Addr.mk b_2 (0 : Nat) none) (Value.agg #[Value.slice a l c, Value.int IntKind.i64 i]) w1 ∧
  ∃ (a : Option Addr),
  ∃ (l : Nat),
  ∃ (c : Nat),
  ∃ (i : Int),
  Ld Go.Proofs.Try.prog (28 : Nat) w1 (Addr.mk b_2 (0 : Nat) none)
  (Value.agg #[Value.slice a l c, Value.int IntKind.i64 i]) ∧
  R
  (Ending.returned
  (Value.tuple
  #[Value.agg #[Value.slice a l c, Value.int IntKind.i64 i], Value.int IntKind.i64 (0 : Int),
  Value.int IntKind.i64 i_2]))
  w1)
  (br (decide (i = (3 : Int)))
  (∃ (i : Int),
  Ld Go.Proofs.Try.prog (3 : Nat) w1 (Addr.mk b_1 (2 : Nat) none) (Value.int IntKind.i64 i) ∧
  br (decide (i < (0 : Int)))
  (∃ (a : Option Addr),
  ∃ (l : Nat),
  ∃ (c : Nat),
  ∃ (i : Int),
  Ld Go.Proofs.Try.prog (28 : Nat) w1 (Addr.mk b (0 : Nat) none) (Value.agg #[Value.slice a l c, Value.int IntKind.i64 i]) ∧
  ∃ (w1_2 : World),
  St Go.Proofs.Try.prog (28 : Nat) w1 (Addr.mk b_2 (0 : Nat) none) (Value.agg #[Value.slice a l c, Value.int IntKind.i64 i]) w1_2 ∧
  ∃ (a : Option Addr),
  ∃ (l : Nat),
  ∃ (c : Nat),
  ∃ (i : Int),
  Ld Go.Proofs.Try.prog (28 : Nat) w1_2 (Addr.mk b_2 (0 : Nat) none) (Value.agg #[Value.slice a l c, Value.int IntKind.i64 i]) ∧
  R
  (Ending.returned
  (Value.tuple #[Value.agg #[Value.slice a l c, Value.int IntKind.i64 i], Value.int IntKind.i64 (0 : Int), Value.int IntKind.i64 (1 : Int)]))
  w1_2)
  (∃ (i : Int),
  Ld Go.Proofs.Try.prog (3 : Nat) w1 (Addr.mk b_1 (2 : Nat) none) (Value.int IntKind.i64 i) ∧
  br (decide ((4611686018427387904 : Int) < i))
  (∃ (a : Option Addr),
  ∃ (l : Nat),
  ∃ (c : Nat),
  ∃ (i : Int),
  Ld Go.Proofs.Try.prog (28 : Nat) w1 (Addr.mk b (0 : Nat) none) (Value.agg #[Value.slice a l c, Value.int IntKind.i64 i]) ∧
  ∃ (w1_2 : World),
  St Go.Proofs.Try.prog (28 : Nat) w1 (Addr.mk b_2 (0 : Nat) none) (Value.agg #[Value.slice a l c, Value.int IntKind.i64 i]) w1_2 ∧
  ∃ (a : Option Addr),
  ∃ (l : Nat),
  ∃ (c : Nat),
  ∃ (i : Int),
  Ld Go.Proofs.Try.prog (28 : Nat) w1_2 (Addr.mk b_2 (0 : Nat) none) (Value.agg #[Value.slice a l c, Value.int IntKind.i64 i]) ∧
  R
  (Ending.returned
  (Value.tuple
  #[Value.agg #[Value.slice a l c, Value.int IntKind.i64 i], Value.int IntKind.i64 (0 : Int), Value.int IntKind.i64 (1 : Int)]))
  w1_2)
  (∃ (i : Int),
  Ld Go.Proofs.Try.prog (3 : Nat) w1 (Addr.mk b_1 (2 : Nat) none) (Value.int IntKind.i64 i) ∧
  ∃ (w1_2 : World),
  St Go.Proofs.Try.prog (3 : Nat) w1 (Addr.mk b (1 : Nat) none) (Value.int IntKind.i64 i) w1_2 ∧
  ∃ (a : Option Addr),
  ∃ (l : Nat),
  ∃ (c : Nat),
  ∃ (i : Int),
  Ld Go.Proofs.Try.prog (28 : Nat) w1_2 (Addr.mk b (0 : Nat) none) (Value.agg #[Value.slice a l c, Value.int IntKind.i64 i]) ∧
  ∃ (w1 : World),
  St Go.Proofs.Try.prog (28 : Nat) w1_2 (Addr.mk b_2 (0 : Nat) none) (Value.agg #[Value.slice a l c, Value.int IntKind.i64 i]) w1 ∧
  ∃ (a : Option Addr),
  ∃ (l : Nat),
  ∃ (c : Nat),
  ∃ (i : Int),
  Ld Go.Proofs.Try.prog (28 : Nat) w1 (Addr.mk b_2 (0 : Nat) none) (Value.agg #[Value.slice a l c, Value.int IntKind.i64 i]) ∧
  R
  (Ending.returned
  (Value.tuple
  #[Value.agg #[Value.slice a l c, Value.int IntKind.i64 i], Value.int IntKind.i64 (0 : Int), Value.int IntKind.i64 (0 : Int)]))
  w1)))
  (∃ (a : Option Addr),
  ∃ (l : Nat),
  ∃ (c : Nat),
  ∃ (i : Int),
  Ld Go.Proofs.Try.prog (28 : Nat) w1 (Addr.mk b (0 : Nat) none) (Value.agg #[Value.slice a l c, Value.int IntKind.i64 i]) ∧
  ∃ (w1_2 : World),
  St Go.Proofs.Try.prog (28 : Nat) w1 (Addr.mk b_2 (0 : Nat) none) (Value.agg #[Value.slice a l c, Value.int IntKind.i64 i]) w1_2 ∧
  ∃ (a : Option Addr),
  ∃ (l : Nat),
  ∃ (c : Nat),
  ∃ (i : Int),
  Ld Go.Proofs.Try.prog (28 : Nat) w1_2 (Addr.mk b_2 (0 : Nat) none) (Value.agg #[Value.slice a l c, Value.int IntKind.i64 i]) ∧
  R
  (Ending.returned
  (Value.tuple #[Value.agg #[Value.slice a l c, Value.int IntKind.i64 i], Value.int IntKind.i64 (0 : Int), Value.int IntKind.i64 (0 : Int)]))
  w1_2))))
theorem rdo.eq (p_La : Option Addr) (p_Ln : Nat) (p_Lc : Nat) (p_Stamp : Int) (o_Kind : Int) (o_Slot : Int) (o_N : Int) (o_S : ByteArray) (w : World) (R : Ending → World → Prop) : bodyV Go.Proofs.Try.prog rdo.an Go.Proofs.Try.f23 [.agg #[.slice p_La p_Ln p_Lc, .int .i64 p_Stamp], .agg #[.int .i64 o_Kind, .int .i64 o_Slot, .int .i64 o_N, .string o_S]] w R = rdo.vc p_La p_Ln p_Lc p_Stamp o_Kind o_Slot o_N o_S w R := by kernel_rfl
theorem rdo.ok (p_La : Option Addr) (p_Ln : Nat) (p_Lc : Nat) (p_Stamp : Int) (o_Kind : Int) (o_Slot : Int) (o_N : Int) (o_S : ByteArray) (w : World) (R : Ending → World → Prop) (h : rdo.vc p_La p_Ln p_Lc p_Stamp o_Kind o_Slot o_N o_S w R) : Calls Go.Proofs.Try.prog 23 #[.agg #[.slice p_La p_Ln p_Lc, .int .i64 p_Stamp], .agg #[.int .i64 o_Kind, .int .i64 o_Slot, .int .i64 o_N, .string o_S]] w R :=
  calls_of_bodyV noNum (an := rdo.an) (args := [.agg #[.slice p_La p_Ln p_Lc, .int .i64 p_Stamp], .agg #[.int .i64 o_Kind, .int .i64 o_Slot, .int .i64 o_N, .string o_S]]) Go.Proofs.Try.func23 (by kernel_rfl) ((rdo.eq p_La p_Ln p_Lc p_Stamp o_Kind o_Slot o_N o_S w R).mpr h)

/-- incunable/incunablelaw11.does -/
def does.an : An := { wraps := [], loops := [], joins := [], ranges := [] }
def does.vc (p : Option Addr) (o_Kind : Int) (o_Slot : Int) (o_N : Int) (o_S : ByteArray) (w : World) (R : Ending → World → Prop) : Prop :=
  ∀ (b : Nat) (w1 : World),
  New w (Obj.cells #[Value.int IntKind.i64 o_Kind, Value.int IntKind.i64 o_Slot, Value.int IntKind.i64 o_N, Value.string o_S] (43 : Nat)) b w1 →
  ∃ (i : Int),
  Ld Go.Proofs.Try.prog (3 : Nat) w1 (Addr.mk b (0 : Nat) none) (Value.int IntKind.i64 i) ∧
  br (decide (i = (0 : Int)))
  (∃ (s : ByteArray),
  Ld Go.Proofs.Try.prog (9 : Nat) w1 (Addr.mk b (3 : Nat) none) (Value.string s) ∧
  CallV Go.Proofs.Try.prog (13 : Nat) [Value.pointer p, Value.string s] w1 fun (e : Ending) (w' : World) ↦
  ∃ (i : Int),
  ∃ (i_1 : Int),
  e = Ending.returned (Value.tuple #[Value.int IntKind.i64 i, Value.int IntKind.i64 i_1]) ∧
  R (Ending.returned (Value.tuple #[Value.int IntKind.i64 i, Value.int IntKind.i64 i_1])) w')
  (br (decide (i = (1 : Int)))
  (∃ (i : Int),
  Ld Go.Proofs.Try.prog (3 : Nat) w1 (Addr.mk b (1 : Nat) none) (Value.int IntKind.i64 i) ∧
  ∃ (s : ByteArray),
  Ld Go.Proofs.Try.prog (9 : Nat) w1 (Addr.mk b (3 : Nat) none) (Value.string s) ∧
  CallV Go.Proofs.Try.prog (27 : Nat) [Value.pointer p, Value.int IntKind.i64 i, Value.string s] w1 fun (e : Ending) (w' : World) ↦
  ∃ (i : Int), e = Ending.returned (Value.int IntKind.i64 i) ∧ R (Ending.returned (Value.tuple #[Value.int IntKind.i64 (0 : Int), Value.int IntKind.i64 i])) w')
  (br (decide (i = (2 : Int)))
  (∃ (i : Int),
  Ld Go.Proofs.Try.prog (3 : Nat) w1 (Addr.mk b (1 : Nat) none) (Value.int IntKind.i64 i) ∧
  CallV Go.Proofs.Try.prog (22 : Nat) [Value.pointer p, Value.int IntKind.i64 i] w1 fun (e : Ending) (w' : World) ↦
  ∃ (i : Int), e = Ending.returned (Value.int IntKind.i64 i) ∧ R (Ending.returned (Value.tuple #[Value.int IntKind.i64 (0 : Int), Value.int IntKind.i64 i])) w')
  (br (decide (i = (3 : Int)))
  (∃ (i : Int),
  Ld Go.Proofs.Try.prog (3 : Nat) w1 (Addr.mk b (2 : Nat) none) (Value.int IntKind.i64 i) ∧
  CallV Go.Proofs.Try.prog (15 : Nat) [Value.pointer p, Value.int IntKind.i64 i] w1 fun (e : Ending) (w' : World) ↦
  ∃ (b : Bool),
  e = Ending.returned (Value.bool b) ∧
  br (!b) (R (Ending.returned (Value.tuple #[Value.int IntKind.i64 (0 : Int), Value.int IntKind.i64 (1 : Int)])) w')
  (R (Ending.returned (Value.tuple #[Value.int IntKind.i64 (0 : Int), Value.int IntKind.i64 (0 : Int)])) w'))
  (R (Ending.returned (Value.tuple #[Value.int IntKind.i64 (0 : Int), Value.int IntKind.i64 (0 : Int)])) w1))))
theorem does.eq (p : Option Addr) (o_Kind : Int) (o_Slot : Int) (o_N : Int) (o_S : ByteArray) (w : World) (R : Ending → World → Prop) : bodyV Go.Proofs.Try.prog does.an Go.Proofs.Try.f16 [.pointer p, .agg #[.int .i64 o_Kind, .int .i64 o_Slot, .int .i64 o_N, .string o_S]] w R = does.vc p o_Kind o_Slot o_N o_S w R := by kernel_rfl
theorem does.ok (p : Option Addr) (o_Kind : Int) (o_Slot : Int) (o_N : Int) (o_S : ByteArray) (w : World) (R : Ending → World → Prop) (h : does.vc p o_Kind o_Slot o_N o_S w R) : Calls Go.Proofs.Try.prog 16 #[.pointer p, .agg #[.int .i64 o_Kind, .int .i64 o_Slot, .int .i64 o_N, .string o_S]] w R :=
  calls_of_bodyV noNum (an := does.an) (args := [.pointer p, .agg #[.int .i64 o_Kind, .int .i64 o_Slot, .int .i64 o_N, .string o_S]]) Go.Proofs.Try.func16 (by kernel_rfl) ((does.eq p o_Kind o_Slot o_N o_S w R).mpr h)

/-- incunable/incunablelaw11.stands -/
def stands.an : An := { wraps := [], loops := [(5, [(35, .inl .i64)])], joins := [], ranges := [] }
def stands.vc (p : Option Addr) (r_La : Option Addr) (r_Ln : Nat) (r_Lc : Nat) (r_Stamp : Int) (w : World) (R : Ending → World → Prop) : Prop :=
  ∀ (b : Nat) (w1 : World),
  New w (Obj.cells #[Value.slice r_La r_Ln r_Lc, Value.int IntKind.i64 r_Stamp] (28 : Nat)) b w1 →
  CallV Go.Proofs.Try.prog (12 : Nat) [Value.pointer p] w1 fun (e : Ending) (w' : World) ↦
  ∃ (a : Option Addr),
  ∃ (l : Nat),
  ∃ (c : Nat),
  e = Ending.returned (Value.slice a l c) ∧
  ∃ (a_1 : Option Addr),
  ∃ (l_1 : Nat),
  ∃ (c : Nat),
  Ld Go.Proofs.Try.prog (26 : Nat) (World.drew w') (Addr.mk b (0 : Nat) none) (Value.slice a_1 l_1 c) ∧
  br (!decide ((↑l : Int) = (↑l_1 : Int))) (R (Ending.returned (Value.bool false)) (World.drew w'))
  (∃ (a_2 : Option Addr),
  ∃ (l_2 : Nat),
  ∃ (c : Nat),
  ∃ (i : Int),
  Ld Go.Proofs.Try.prog (28 : Nat) (World.drew w') (Addr.mk b (0 : Nat) none) (Value.agg #[Value.slice a_2 l_2 c, Value.int IntKind.i64 i]) ∧
  CallV Go.Proofs.Try.prog (11 : Nat) [Value.pointer p] (World.drew w') fun (e : Ending) (w' : World) ↦
  ∃ (i_1 : Int),
  e = Ending.returned (Value.int IntKind.i64 i_1) ∧
  Ld Go.Proofs.Try.prog (28 : Nat) w' (Addr.mk b (0 : Nat) none) (Value.agg #[Value.slice a_2 l_2 c, Value.int IntKind.i64 i]) ∧
  CallV Go.Proofs.Try.prog (24 : Nat) [Value.agg #[Value.slice a_2 l_2 c, Value.int IntKind.i64 i]] w' fun (e : Ending) (w' : World) ↦
  ∃ (i : Int),
  e = Ending.returned (Value.int IntKind.i64 i) ∧
  br (!decide (i_1 = i)) (R (Ending.returned (Value.bool false)) w')
  (∃ (i : Int),
  Ld Go.Proofs.Try.prog (3 : Nat) w' (Addr.mk b (1 : Nat) none) (Value.int IntKind.i64 i) ∧
  CallV Go.Proofs.Try.prog (17 : Nat) [Value.pointer p] w' fun (e : Ending) (w' : World) ↦
  ∃ (i_2 : Int),
  e = Ending.returned (Value.int IntKind.i64 i_2) ∧
  Ld Go.Proofs.Try.prog (3 : Nat) w' (Addr.mk b (1 : Nat) none) (Value.int IntKind.i64 i) ∧
  br (!decide (i_2 = i)) (R (Ending.returned (Value.bool false)) w')
  (∃ (a_3 : Option Addr),
  ∃ (l_3 : Nat),
  ∃ (c : Nat),
  Ld Go.Proofs.Try.prog (26 : Nat) w' (Addr.mk b (0 : Nat) none) (Value.slice a_3 l_3 c) ∧
  LoopP
  (fun (s : Int) (w' : World) (next : Int → World → Prop) ↦
  br (decide (s < (↑l_3 : Int)))
  (onP a_3 fun (a_4 : Addr) ↦
  ((0 : Int) ≤ s ∧ s < (↑l_3 : Int)) ∧
  ∃ (i : Int),
  ∃ (s_1 : ByteArray),
  Ld Go.Proofs.Try.prog (64 : Nat) w' (Addr.add a_4 (Int.toNat s * (2 : Nat)))
  (Value.agg #[Value.int IntKind.i64 i, Value.string s_1]) ∧
  ∀ (b : Nat) (w1 : World),
  New w' (Obj.cells #[Value.int IntKind.i64 (0 : Int), Value.string (ByteArray.mk #[])] (64 : Nat)) b w1 →
  ∃ (w1_1 : World),
  St Go.Proofs.Try.prog (64 : Nat) w1 (Addr.mk b (0 : Nat) none)
  (Value.agg #[Value.int IntKind.i64 i, Value.string s_1]) w1_1 ∧
  ∃ (i : Int),
  Ld Go.Proofs.Try.prog (3 : Nat) w1_1 (Addr.mk b (0 : Nat) none) (Value.int IntKind.i64 i) ∧
  CallV Go.Proofs.Try.prog (19 : Nat) [Value.pointer p, Value.int IntKind.i64 i] w1_1
  fun (e : Ending) (w' : World) ↦
  ∃ (s_2 : ByteArray),
  ∃ (b_1 : Bool),
  e = Ending.returned (Value.tuple #[Value.string s_2, Value.bool b_1]) ∧
  onP a fun (a : Addr) ↦
  ((0 : Int) ≤ s ∧ s < (↑l : Int)) ∧
  ∃ (i : Int),
  Ld Go.Proofs.Try.prog (3 : Nat) (World.drew w') (Addr.add a (Int.toNat s * (1 : Nat)))
  (Value.int IntKind.i64 i) ∧
  ∃ (i_3 : Int),
  Ld Go.Proofs.Try.prog (3 : Nat) (World.drew w') (Addr.mk b (0 : Nat) none)
  (Value.int IntKind.i64 i_3) ∧
  br (!decide (i = i_3)) (R (Ending.returned (Value.bool false)) (World.drew w'))
  (br (!b_1) (R (Ending.returned (Value.bool false)) (World.drew w'))
  (∃ (s_3 : ByteArray),
  Ld Go.Proofs.Try.prog (9 : Nat) (World.drew w') (Addr.mk b (1 : Nat) none)
  (Value.string s_3) ∧
  br (!decide (s_2 = s_3))
  (R (Ending.returned (Value.bool false)) (World.drew w'))
  (inR IntKind.i64 (s + (1 : Int)) ∧
  next (s + (1 : Int)) (World.drew w')))))
  (R (Ending.returned (Value.bool true)) w'))
  (0 : Int) w')))
theorem stands.eq (p : Option Addr) (r_La : Option Addr) (r_Ln : Nat) (r_Lc : Nat) (r_Stamp : Int) (w : World) (R : Ending → World → Prop) : bodyV Go.Proofs.Try.prog stands.an Go.Proofs.Try.f14 [.pointer p, .agg #[.slice r_La r_Ln r_Lc, .int .i64 r_Stamp]] w R = stands.vc p r_La r_Ln r_Lc r_Stamp w R := by kernel_rfl
theorem stands.ok (p : Option Addr) (r_La : Option Addr) (r_Ln : Nat) (r_Lc : Nat) (r_Stamp : Int) (w : World) (R : Ending → World → Prop) (h : stands.vc p r_La r_Ln r_Lc r_Stamp w R) : Calls Go.Proofs.Try.prog 14 #[.pointer p, .agg #[.slice r_La r_Ln r_Lc, .int .i64 r_Stamp]] w R :=
  calls_of_bodyV noNum (an := stands.an) (args := [.pointer p, .agg #[.slice r_La r_Ln r_Lc, .int .i64 r_Stamp]]) Go.Proofs.Try.func14 (by kernel_rfl) ((stands.eq p r_La r_Ln r_Lc r_Stamp w R).mpr h)

/-- incunable/incunablelaw11.plays -/
def plays.an : An := { wraps := [], loops := [(2, [(17, .inl .i64)])], joins := [], ranges := [] }
def plays.vc (p : Option Addr) (r_La : Option Addr) (r_Ln : Nat) (r_Lc : Nat) (r_Stamp : Int) (scripta : Option Addr) (scriptn : Nat) (scriptc : Nat) (w : World) (R : Ending → World → Prop) : Prop :=
  ∀ (b : Nat) (w1 : World),
  New w (Obj.cells #[Value.slice r_La r_Ln r_Lc, Value.int IntKind.i64 r_Stamp] (28 : Nat)) b w1 →
  ∀ (b_1 : Nat) (w1_1 : World),
  New w1 (Obj.cells #[Value.slice none (0 : Nat) (0 : Nat), Value.int IntKind.i64 (0 : Int)] (28 : Nat)) b_1 w1_1 →
  LoopP
  (fun (s : Int) (w' : World) (next : Int → World → Prop) ↦
  br (decide (s < (↑scriptn : Int)))
  (onP scripta fun (a : Addr) ↦
  ((0 : Int) ≤ s ∧ s < (↑scriptn : Int)) ∧
  ∃ (i : Int),
  ∃ (i_1 : Int),
  ∃ (i_2 : Int),
  ∃ (s_1 : ByteArray),
  Ld Go.Proofs.Try.prog (43 : Nat) w' (Addr.add a (Int.toNat s * (4 : Nat)))
  (Value.agg #[Value.int IntKind.i64 i, Value.int IntKind.i64 i_1, Value.int IntKind.i64 i_2, Value.string s_1]) ∧
  ∀ (b_2 : Nat) (w1 : World),
  New w' (Obj.cells #[Value.int IntKind.i64 (0 : Int), Value.int IntKind.i64 (0 : Int), Value.int IntKind.i64 (0 : Int), Value.string (ByteArray.mk #[])] (43 : Nat)) b_2
  w1 →
  ∃ (w1_2 : World),
  St Go.Proofs.Try.prog (43 : Nat) w1 (Addr.mk b_2 (0 : Nat) none)
  (Value.agg #[Value.int IntKind.i64 i, Value.int IntKind.i64 i_1, Value.int IntKind.i64 i_2, Value.string s_1]) w1_2 ∧
  ∃ (a : Option Addr),
  ∃ (l : Nat),
  ∃ (c : Nat),
  ∃ (i : Int),
  Ld Go.Proofs.Try.prog (28 : Nat) w1_2 (Addr.mk b (0 : Nat) none) (Value.agg #[Value.slice a l c, Value.int IntKind.i64 i]) ∧
  ∃ (i_3 : Int),
  ∃ (i_4 : Int),
  ∃ (i_5 : Int),
  ∃ (s_2 : ByteArray),
  Ld Go.Proofs.Try.prog (43 : Nat) w1_2 (Addr.mk b_2 (0 : Nat) none)
  (Value.agg #[Value.int IntKind.i64 i_3, Value.int IntKind.i64 i_4, Value.int IntKind.i64 i_5, Value.string s_2]) ∧
  CallV Go.Proofs.Try.prog (23 : Nat)
  [Value.agg #[Value.slice a l c, Value.int IntKind.i64 i],
  Value.agg #[Value.int IntKind.i64 i_3, Value.int IntKind.i64 i_4, Value.int IntKind.i64 i_5, Value.string s_2]]
  w1_2 fun (e : Ending) (w' : World) ↦
  ∃ (a : Option Addr),
  ∃ (l : Nat),
  ∃ (c : Nat),
  ∃ (i : Int),
  ∃ (i_6 : Int),
  ∃ (i_7 : Int),
  e =
  Ending.returned
  (Value.tuple
  #[Value.agg #[Value.slice a l c, Value.int IntKind.i64 i], Value.int IntKind.i64 i_6, Value.int IntKind.i64 i_7]) ∧
  ∀ (b_3 : Nat) (w1 : World),
  New w' (Obj.cells #[Value.slice none (0 : Nat) (0 : Nat), Value.int IntKind.i64 (0 : Int)] (28 : Nat)) b_3 w1 →
  ∃ (w1_3 : World),
  St Go.Proofs.Try.prog (28 : Nat) w1 (Addr.mk b_3 (0 : Nat) none) (Value.agg #[Value.slice a l c, Value.int IntKind.i64 i])
  w1_3 ∧
  ∃ (a : Option Addr),
  ∃ (l : Nat),
  ∃ (c : Nat),
  ∃ (i : Int),
  Ld Go.Proofs.Try.prog (28 : Nat) w1_3 (Addr.mk b_3 (0 : Nat) none)
  (Value.agg #[Value.slice a l c, Value.int IntKind.i64 i]) ∧
  ∃ (w1 : World),
  St Go.Proofs.Try.prog (28 : Nat) w1_3 (Addr.mk b (0 : Nat) none)
  (Value.agg #[Value.slice a l c, Value.int IntKind.i64 i]) w1 ∧
  ∃ (i : Int),
  ∃ (i_8 : Int),
  ∃ (i_9 : Int),
  ∃ (s_3 : ByteArray),
  Ld Go.Proofs.Try.prog (43 : Nat) w1 (Addr.mk b_2 (0 : Nat) none)
  (Value.agg
  #[Value.int IntKind.i64 i, Value.int IntKind.i64 i_8, Value.int IntKind.i64 i_9,
  Value.string s_3]) ∧
  CallV Go.Proofs.Try.prog (16 : Nat)
  [Value.pointer p,
  Value.agg
  #[Value.int IntKind.i64 i, Value.int IntKind.i64 i_8, Value.int IntKind.i64 i_9,
  Value.string s_3]]
  w1 fun (e : Ending) (w' : World) ↦
  ∃ (i : Int),
  ∃ (i_10 : Int),
  e = Ending.returned (Value.tuple #[Value.int IntKind.i64 i, Value.int IntKind.i64 i_10]) ∧
  br (!decide (i = i_6))
  (∃ (a : Option Addr),
  ∃ (l : Nat),
  ∃ (c : Nat),
  ∃ (i : Int),
  Ld Go.Proofs.Try.prog (28 : Nat) (World.drew w') (Addr.mk b (0 : Nat) none)
  (Value.agg #[Value.slice a l c, Value.int IntKind.i64 i]) ∧
  ∃ (w1 : World),
  St Go.Proofs.Try.prog (28 : Nat) (World.drew w') (Addr.mk b_1 (0 : Nat) none)
  (Value.agg #[Value.slice a l c, Value.int IntKind.i64 i]) w1 ∧
  ∃ (a : Option Addr),
  ∃ (l : Nat),
  ∃ (c : Nat),
  ∃ (i : Int),
  Ld Go.Proofs.Try.prog (28 : Nat) w1 (Addr.mk b_1 (0 : Nat) none)
  (Value.agg #[Value.slice a l c, Value.int IntKind.i64 i]) ∧
  R
  (Ending.returned
  (Value.tuple
  #[Value.agg
  #[Value.slice a l c, Value.int IntKind.i64 i],
  Value.bool false]))
  w1)
  (br (!decide (i_7 = i_10))
  (∃ (a : Option Addr),
  ∃ (l : Nat),
  ∃ (c : Nat),
  ∃ (i : Int),
  Ld Go.Proofs.Try.prog (28 : Nat) (World.drew w') (Addr.mk b (0 : Nat) none)
  (Value.agg #[Value.slice a l c, Value.int IntKind.i64 i]) ∧
  ∃ (w1 : World),
  St Go.Proofs.Try.prog (28 : Nat) (World.drew w')
  (Addr.mk b_1 (0 : Nat) none)
  (Value.agg #[Value.slice a l c, Value.int IntKind.i64 i]) w1 ∧
  ∃ (a : Option Addr),
  ∃ (l : Nat),
  ∃ (c : Nat),
  ∃ (i : Int),
  Ld Go.Proofs.Try.prog (28 : Nat) w1 (Addr.mk b_1 (0 : Nat) none)
  (Value.agg
  #[Value.slice a l c, Value.int IntKind.i64 i]) ∧
  R
  (Ending.returned
  (Value.tuple
  #[Value.agg
  #[Value.slice a l c, Value.int IntKind.i64 i],
  Value.bool false]))
  w1)
  (∃ (a : Option Addr),
  ∃ (l : Nat),
  ∃ (c : Nat),
  ∃ (i : Int),
  Ld Go.Proofs.Try.prog (28 : Nat) (World.drew w') (Addr.mk b (0 : Nat) none)
  (Value.agg #[Value.slice a l c, Value.int IntKind.i64 i]) ∧
  CallV Go.Proofs.Try.prog (11 : Nat) [Value.pointer p] (World.drew w')
  fun (e : Ending) (w' : World) ↦
  ∃ (i_11 : Int),
  e = Ending.returned (Value.int IntKind.i64 i_11) ∧
  Ld Go.Proofs.Try.prog (28 : Nat) w' (Addr.mk b (0 : Nat) none)
  (Value.agg #[Value.slice a l c, Value.int IntKind.i64 i]) ∧
  CallV Go.Proofs.Try.prog (24 : Nat)
  [Value.agg #[Value.slice a l c, Value.int IntKind.i64 i]] w'
  fun (e : Ending) (w' : World) ↦
  ∃ (i : Int),
  e = Ending.returned (Value.int IntKind.i64 i) ∧
  br (!decide (i_11 = i))
  (∃ (a : Option Addr),
  ∃ (l : Nat),
  ∃ (c : Nat),
  ∃ (i : Int),
  Ld Go.Proofs.Try.prog (28 : Nat) w'
  (Addr.mk b (0 : Nat) none)
  (Value.agg
  #[Value.slice a l c,
  Value.int IntKind.i64 i]) ∧
  ∃ (w1 : World),
  St Go.Proofs.Try.prog (28 : Nat) w'
  (Addr.mk b_1 (0 : Nat) none)
  (Value.agg
  #[Value.slice a l c,
  Value.int IntKind.i64 i])
  w1 ∧
  ∃ (a : Option Addr),
  ∃ (l : Nat),
  ∃ (c : Nat),
  ∃ (i : Int),
  Ld Go.Proofs.Try.prog (28 : Nat) w1
  (Addr.mk b_1 (0 : Nat) none)
  (Value.agg
  #[Value.slice a l c,
  Value.int IntKind.i64 i]) ∧
  R
  (Ending.returned
  (Value.tuple
  #[Value.agg
  #[Value.slice a l c,
  Value.int IntKind.i64
  i],
  Value.bool false]))
  w1)
  (inR IntKind.i64 (s + (1 : Int)) ∧
  next (s + (1 : Int)) w'))))
  (∃ (a : Option Addr),
  ∃ (l : Nat),
  ∃ (c : Nat),
  ∃ (i : Int),
  Ld Go.Proofs.Try.prog (28 : Nat) w' (Addr.mk b (0 : Nat) none) (Value.agg #[Value.slice a l c, Value.int IntKind.i64 i]) ∧
  ∃ (w1 : World),
  St Go.Proofs.Try.prog (28 : Nat) w' (Addr.mk b_1 (0 : Nat) none) (Value.agg #[Value.slice a l c, Value.int IntKind.i64 i]) w1 ∧
  ∃ (a : Option Addr),
  ∃ (l : Nat),
  ∃ (c : Nat),
  ∃ (i : Int),
  Ld Go.Proofs.Try.prog (28 : Nat) w1 (Addr.mk b_1 (0 : Nat) none) (Value.agg #[Value.slice a l c, Value.int IntKind.i64 i]) ∧
  R (Ending.returned (Value.tuple #[Value.agg #[Value.slice a l c, Value.int IntKind.i64 i], Value.bool true])) w1))
  (0 : Int) w1_1
theorem plays.eq (p : Option Addr) (r_La : Option Addr) (r_Ln : Nat) (r_Lc : Nat) (r_Stamp : Int) (scripta : Option Addr) (scriptn : Nat) (scriptc : Nat) (w : World) (R : Ending → World → Prop) : bodyV Go.Proofs.Try.prog plays.an Go.Proofs.Try.f10 [.pointer p, .agg #[.slice r_La r_Ln r_Lc, .int .i64 r_Stamp], .slice scripta scriptn scriptc] w R = plays.vc p r_La r_Ln r_Lc r_Stamp scripta scriptn scriptc w R := by kernel_rfl
theorem plays.ok (p : Option Addr) (r_La : Option Addr) (r_Ln : Nat) (r_Lc : Nat) (r_Stamp : Int) (scripta : Option Addr) (scriptn : Nat) (scriptc : Nat) (w : World) (R : Ending → World → Prop) (h : plays.vc p r_La r_Ln r_Lc r_Stamp scripta scriptn scriptc w R) : Calls Go.Proofs.Try.prog 10 #[.pointer p, .agg #[.slice r_La r_Ln r_Lc, .int .i64 r_Stamp], .slice scripta scriptn scriptc] w R :=
  calls_of_bodyV noNum (an := plays.an) (args := [.pointer p, .agg #[.slice r_La r_Ln r_Lc, .int .i64 r_Stamp], .slice scripta scriptn scriptc]) Go.Proofs.Try.func10 (by kernel_rfl) ((plays.eq p r_La r_Ln r_Lc r_Stamp scripta scriptn scriptc w R).mpr h)

/-- incunable/incunablelaw11.alive -/
def alive.an : An := { wraps := [], loops := [], joins := [], ranges := [] }
def alive.vc  (w : World) (R : Ending → World → Prop) : Prop :=
  CallV Go.Proofs.Try.prog (8 : Nat) [] w fun (e : Ending) (w' : World) ↦
  ∃ (p : Option Addr),
  e = Ending.returned (Value.pointer p) ∧
  ∃ (b : Bool),
  Eqv Go.Proofs.Try.prog BinOp.eql (23 : Nat) (Operand.tmp (9 : Nat)) (Operand.const (Value.pointer none)) w' (Value.pointer p) (Value.pointer none) b ∧
  br b (R (Ending.returned (Value.bool false)) w')
  (CallV Go.Proofs.Try.prog (13 : Nat) [Value.pointer p, Value.string (ByteArray.mk #[(97 : UInt8), (98 : UInt8)])] w' fun (e : Ending) (w' : World) ↦
  ∃ (i : Int),
  ∃ (i_1 : Int),
  e = Ending.returned (Value.tuple #[Value.int IntKind.i64 i, Value.int IntKind.i64 i_1]) ∧
  CallV Go.Proofs.Try.prog (13 : Nat) [Value.pointer p, Value.string (ByteArray.mk #[(99 : UInt8)])] w' fun (e : Ending) (w' : World) ↦
  ∃ (i_2 : Int),
  ∃ (i_3 : Int),
  e = Ending.returned (Value.tuple #[Value.int IntKind.i64 i_2, Value.int IntKind.i64 i_3]) ∧
  CallV Go.Proofs.Try.prog (19 : Nat) [Value.pointer p, Value.int IntKind.i64 (1 : Int)] w' fun (e : Ending) (w' : World) ↦
  ∃ (s : ByteArray),
  ∃ (b : Bool),
  e = Ending.returned (Value.tuple #[Value.string s, Value.bool b]) ∧
  CallV Go.Proofs.Try.prog (11 : Nat) [Value.pointer p] w' fun (e : Ending) (w' : World) ↦
  ∃ (i_4 : Int),
  e = Ending.returned (Value.int IntKind.i64 i_4) ∧
  br (decide (i_4 = (3597 : Int)))
  (br (decide (i = (0 : Int)))
  (br (decide (i_1 = (0 : Int)))
  (br (decide (i_2 = (1 : Int)))
  (br (decide (i_3 = (0 : Int)))
  (br b
  (br (decide (s = ByteArray.mk #[(99 : UInt8)]))
  (CallV Go.Proofs.Try.prog (22 : Nat) [Value.pointer p, Value.int IntKind.i64 (0 : Int)] w' fun (e : Ending) (w' : World) ↦
  ∃ (i : Int),
  e = Ending.returned (Value.int IntKind.i64 i) ∧
  br (decide (i = (0 : Int)))
  (CallV Go.Proofs.Try.prog (12 : Nat) [Value.pointer p] w' fun (e : Ending) (w' : World) ↦
  ∃ (a : Option Addr),
  ∃ (l : Nat),
  ∃ (c : Nat),
  e = Ending.returned (Value.slice a l c) ∧
  br (decide ((↑l : Int) = (1 : Int)))
  (CallV Go.Proofs.Try.prog (20 : Nat) [Value.pointer p] w' fun (e : Ending) (w' : World) ↦
  ∃ (a : Option Addr),
  ∃ (l : Nat),
  ∃ (c : Nat),
  e = Ending.returned (Value.slice a l c) ∧ R (Ending.returned (Value.bool (decide ((↑l : Int) = (4096 : Int))))) w')
  (R (Ending.returned (Value.bool false)) w'))
  (R (Ending.returned (Value.bool false)) w'))
  (R (Ending.returned (Value.bool false)) w'))
  (R (Ending.returned (Value.bool false)) w'))
  (R (Ending.returned (Value.bool false)) w'))
  (R (Ending.returned (Value.bool false)) w'))
  (R (Ending.returned (Value.bool false)) w'))
  (R (Ending.returned (Value.bool false)) w'))
  (R (Ending.returned (Value.bool false)) w'))
theorem alive.eq  (w : World) (R : Ending → World → Prop) : bodyV Go.Proofs.Try.prog alive.an Go.Proofs.Try.f9 [] w R = alive.vc  w R := by kernel_rfl
theorem alive.ok  (w : World) (R : Ending → World → Prop) (h : alive.vc  w R) : Calls Go.Proofs.Try.prog 9 #[] w R :=
  calls_of_bodyV noNum (an := alive.an) (args := []) Go.Proofs.Try.func9 (by kernel_rfl) ((alive.eq  w R).mpr h)

/-- incunable/incunablelaw11.SlateFills -/
def slateFills.an : An := { wraps := [], loops := [(6, [(36, .inl .i64)])], joins := [], ranges := [] }
def slateFills.vc (scripta : Option Addr) (scriptn : Nat) (scriptc : Nat) (long : Int) (w : World) (R : Ending → World → Prop) : Prop :=
  CallV Go.Proofs.Try.prog (8 : Nat) [] w fun (e : Ending) (w' : World) ↦
  ∃ (p : Option Addr),
  e = Ending.returned (Value.pointer p) ∧
  ∃ (b : Bool),
  Eqv Go.Proofs.Try.prog BinOp.eql (23 : Nat) (Operand.tmp (12 : Nat)) (Operand.const (Value.pointer none)) w' (Value.pointer p) (Value.pointer none) b ∧
  br b
  (∃ (b : Bool),
  Eqv Go.Proofs.Try.prog BinOp.neq (23 : Nat) (Operand.tmp (27 : Nat)) (Operand.const (Value.pointer none)) w' (Value.pointer p) (Value.pointer none) b ∧
  br b (CallV Go.Proofs.Try.prog (9 : Nat) [] w' fun (e : Ending) (w' : World) ↦ ∃ (b : Bool), e = Ending.returned (Value.bool b) ∧ R (Ending.returned (Value.bool b)) w')
  (R (Ending.returned (Value.bool false)) w'))
  (br (decide ((200 : Int) < (↑scriptn : Int)))
  (∃ (b : Bool),
  Eqv Go.Proofs.Try.prog BinOp.neq (23 : Nat) (Operand.tmp (27 : Nat)) (Operand.const (Value.pointer none)) w' (Value.pointer p) (Value.pointer none) b ∧
  br b (CallV Go.Proofs.Try.prog (9 : Nat) [] w' fun (e : Ending) (w' : World) ↦ ∃ (b : Bool), e = Ending.returned (Value.bool b) ∧ R (Ending.returned (Value.bool b)) w')
  (R (Ending.returned (Value.bool false)) w'))
  (br (decide (long < (0 : Int)))
  (∃ (b : Bool),
  Eqv Go.Proofs.Try.prog BinOp.neq (23 : Nat) (Operand.tmp (27 : Nat)) (Operand.const (Value.pointer none)) w' (Value.pointer p) (Value.pointer none) b ∧
  br b (CallV Go.Proofs.Try.prog (9 : Nat) [] w' fun (e : Ending) (w' : World) ↦ ∃ (b : Bool), e = Ending.returned (Value.bool b) ∧ R (Ending.returned (Value.bool b)) w')
  (R (Ending.returned (Value.bool false)) w'))
  (br (decide ((5000 : Int) < long))
  (∃ (b : Bool),
  Eqv Go.Proofs.Try.prog BinOp.neq (23 : Nat) (Operand.tmp (27 : Nat)) (Operand.const (Value.pointer none)) w' (Value.pointer p) (Value.pointer none) b ∧
  br b (CallV Go.Proofs.Try.prog (9 : Nat) [] w' fun (e : Ending) (w' : World) ↦ ∃ (b : Bool), e = Ending.returned (Value.bool b) ∧ R (Ending.returned (Value.bool b)) w')
  (R (Ending.returned (Value.bool false)) w'))
  (CallV Go.Proofs.Try.prog (10 : Nat) [Value.pointer p, Value.agg #[Value.slice none (0 : Nat) (0 : Nat), Value.int IntKind.i64 (0 : Int)], Value.slice scripta scriptn scriptc] w'
  fun (e : Ending) (w' : World) ↦
  ∃ (a : Option Addr),
  ∃ (l : Nat),
  ∃ (c : Nat),
  ∃ (i : Int),
  ∃ (b : Bool),
  e = Ending.returned (Value.tuple #[Value.agg #[Value.slice a l c, Value.int IntKind.i64 i], Value.bool b]) ∧
  LoopP
  (fun (s : Int) (w' : World) (next : Int → World → Prop) ↦
  br (decide (s < (121 : Int)))
  (CallV Go.Proofs.Try.prog (11 : Nat) [Value.pointer p] w' fun (e : Ending) (w' : World) ↦
  ∃ (i : Int),
  e = Ending.returned (Value.int IntKind.i64 i) ∧
  CallV Go.Proofs.Try.prog (12 : Nat) [Value.pointer p] w' fun (e : Ending) (w' : World) ↦
  ∃ (a : Option Addr),
  ∃ (l : Nat),
  ∃ (c : Nat),
  e = Ending.returned (Value.slice a l c) ∧
  ∃ (a : Option Addr),
  ∃ (n : Nat),
  ∃ (m : Nat),
  ∃ (w1 : World),
  MkS Go.Proofs.Try.prog (37 : Nat) w' (Value.int IntKind.i64 long) (Value.int IntKind.i64 long) (Value.slice a n m) w1 ∧
  ∃ (s_1 : ByteArray),
  B2S Go.Proofs.Try.prog (37 : Nat) (9 : Nat) w1 (Value.slice a n m) (Value.string s_1) ∧
  CallV Go.Proofs.Try.prog (13 : Nat) [Value.pointer p, Value.string s_1] w1 fun (e : Ending) (w' : World) ↦
  ∃ (i_1 : Int),
  ∃ (i_2 : Int),
  e = Ending.returned (Value.tuple #[Value.int IntKind.i64 i_1, Value.int IntKind.i64 i_2]) ∧
  br (decide (long ≤ i))
  (br (!decide (i_2 = (0 : Int)) == decide ((↑l : Int) < (120 : Int))) (R (Ending.returned (Value.bool false)) w')
  (br (!decide ((↑l : Int) < (120 : Int)))
  (br (!decide (i_2 = (111 : Int))) (R (Ending.returned (Value.bool false)) w')
  (inR IntKind.i64 (s + (1 : Int)) ∧ next (s + (1 : Int)) w'))
  (inR IntKind.i64 (s + (1 : Int)) ∧ next (s + (1 : Int)) w')))
  (br (!decide (i_2 = (0 : Int)) == false) (R (Ending.returned (Value.bool false)) w')
  (br (!decide (i_2 = (111 : Int))) (R (Ending.returned (Value.bool false)) w')
  (inR IntKind.i64 (s + (1 : Int)) ∧ next (s + (1 : Int)) w'))))
  (CallV Go.Proofs.Try.prog (9 : Nat) [] w' fun (e : Ending) (w' : World) ↦
  ∃ (b : Bool),
  e = Ending.returned (Value.bool b) ∧
  br b
  (CallV Go.Proofs.Try.prog (11 : Nat) [Value.pointer p] w' fun (e : Ending) (w' : World) ↦
  ∃ (i : Int), e = Ending.returned (Value.int IntKind.i64 i) ∧ R (Ending.returned (Value.bool (decide ((0 : Int) ≤ i)))) w')
  (R (Ending.returned (Value.bool false)) w')))
  (0 : Int) w'))))
theorem slateFills.eq (scripta : Option Addr) (scriptn : Nat) (scriptc : Nat) (long : Int) (w : World) (R : Ending → World → Prop) : bodyV Go.Proofs.Try.prog slateFills.an Go.Proofs.Try.f3 [.slice scripta scriptn scriptc, .int .i64 long] w R = slateFills.vc scripta scriptn scriptc long w R := by kernel_rfl
theorem slateFills.ok (scripta : Option Addr) (scriptn : Nat) (scriptc : Nat) (long : Int) (w : World) (R : Ending → World → Prop) (h : slateFills.vc scripta scriptn scriptc long w R) : Calls Go.Proofs.Try.prog 3 #[.slice scripta scriptn scriptc, .int .i64 long] w R :=
  calls_of_bodyV noNum (an := slateFills.an) (args := [.slice scripta scriptn scriptc, .int .i64 long]) Go.Proofs.Try.func3 (by kernel_rfl) ((slateFills.eq scripta scriptn scriptc long w R).mpr h)

/-- incunable/incunablelaw11.SlateAll -/
def slateAll.an : An := { wraps := [], loops := [], joins := [], ranges := [] }
def slateAll.vc (scripta : Option Addr) (scriptn : Nat) (scriptc : Nat) (w : World) (R : Ending → World → Prop) : Prop :=
  CallV Go.Proofs.Try.prog (8 : Nat) [] w fun (e : Ending) (w' : World) ↦
  ∃ (p : Option Addr),
  e = Ending.returned (Value.pointer p) ∧
  ∃ (b : Bool),
  Eqv Go.Proofs.Try.prog BinOp.eql (23 : Nat) (Operand.tmp (7 : Nat)) (Operand.const (Value.pointer none)) w' (Value.pointer p) (Value.pointer none) b ∧
  br b
  (∃ (b : Bool),
  Eqv Go.Proofs.Try.prog BinOp.neq (23 : Nat) (Operand.tmp (14 : Nat)) (Operand.const (Value.pointer none)) w' (Value.pointer p) (Value.pointer none) b ∧
  br b (CallV Go.Proofs.Try.prog (9 : Nat) [] w' fun (e : Ending) (w' : World) ↦ ∃ (b : Bool), e = Ending.returned (Value.bool b) ∧ R (Ending.returned (Value.bool b)) w')
  (R (Ending.returned (Value.bool false)) w'))
  (br (decide ((400 : Int) < (↑scriptn : Int)))
  (∃ (b : Bool),
  Eqv Go.Proofs.Try.prog BinOp.neq (23 : Nat) (Operand.tmp (14 : Nat)) (Operand.const (Value.pointer none)) w' (Value.pointer p) (Value.pointer none) b ∧
  br b (CallV Go.Proofs.Try.prog (9 : Nat) [] w' fun (e : Ending) (w' : World) ↦ ∃ (b : Bool), e = Ending.returned (Value.bool b) ∧ R (Ending.returned (Value.bool b)) w')
  (R (Ending.returned (Value.bool false)) w'))
  (CallV Go.Proofs.Try.prog (10 : Nat) [Value.pointer p, Value.agg #[Value.slice none (0 : Nat) (0 : Nat), Value.int IntKind.i64 (0 : Int)], Value.slice scripta scriptn scriptc] w'
  fun (e : Ending) (w' : World) ↦
  ∃ (a : Option Addr),
  ∃ (l : Nat),
  ∃ (c : Nat),
  ∃ (i : Int),
  ∃ (b : Bool),
  e = Ending.returned (Value.tuple #[Value.agg #[Value.slice a l c, Value.int IntKind.i64 i], Value.bool b]) ∧
  ∀ (b_1 : Nat) (w1 : World),
  New w' (Obj.cells #[Value.slice none (0 : Nat) (0 : Nat), Value.int IntKind.i64 (0 : Int)] (28 : Nat)) b_1 w1 →
  ∃ (w1_1 : World),
  St Go.Proofs.Try.prog (28 : Nat) w1 (Addr.mk b_1 (0 : Nat) none) (Value.agg #[Value.slice a l c, Value.int IntKind.i64 i]) w1_1 ∧
  CallV Go.Proofs.Try.prog (9 : Nat) [] w1_1 fun (e : Ending) (w' : World) ↦
  ∃ (b_2 : Bool),
  e = Ending.returned (Value.bool b_2) ∧
  br b_2
  (br b
  (∃ (a : Option Addr),
  ∃ (l : Nat),
  ∃ (c : Nat),
  ∃ (i : Int),
  Ld Go.Proofs.Try.prog (28 : Nat) w' (Addr.mk b_1 (0 : Nat) none) (Value.agg #[Value.slice a l c, Value.int IntKind.i64 i]) ∧
  CallV Go.Proofs.Try.prog (14 : Nat) [Value.pointer p, Value.agg #[Value.slice a l c, Value.int IntKind.i64 i]] w' fun (e : Ending) (w' : World) ↦
  ∃ (b : Bool), e = Ending.returned (Value.bool b) ∧ R (Ending.returned (Value.bool b)) w')
  (R (Ending.returned (Value.bool false)) w'))
  (R (Ending.returned (Value.bool false)) w')))
theorem slateAll.eq (scripta : Option Addr) (scriptn : Nat) (scriptc : Nat) (w : World) (R : Ending → World → Prop) : bodyV Go.Proofs.Try.prog slateAll.an Go.Proofs.Try.f4 [.slice scripta scriptn scriptc] w R = slateAll.vc scripta scriptn scriptc w R := by kernel_rfl
theorem slateAll.ok (scripta : Option Addr) (scriptn : Nat) (scriptc : Nat) (w : World) (R : Ending → World → Prop) (h : slateAll.vc scripta scriptn scriptc w R) : Calls Go.Proofs.Try.prog 4 #[.slice scripta scriptn scriptc] w R :=
  calls_of_bodyV noNum (an := slateAll.an) (args := [.slice scripta scriptn scriptc]) Go.Proofs.Try.func4 (by kernel_rfl) ((slateAll.eq scripta scriptn scriptc w R).mpr h)

/-- incunable/incunablelaw11.SlateStamps -/
def slateStamps.an : An := { wraps := [], loops := [(13, [(55, .inl .i64)])], joins := [(6, [(8, .inr 0)])], ranges := [] }
def slateStamps.vc (scripta : Option Addr) (scriptn : Nat) (scriptc : Nat) (n : Int) (w : World) (R : Ending → World → Prop) : Prop :=
  CallV Go.Proofs.Try.prog (8 : Nat) [] w fun (e : Ending) (w' : World) ↦
  ∃ (p : Option Addr),
  e = Ending.returned (Value.pointer p) ∧
  ∃ (b : Bool),
  Eqv Go.Proofs.Try.prog BinOp.eql (23 : Nat) (Operand.tmp (12 : Nat)) (Operand.const (Value.pointer none)) w' (Value.pointer p) (Value.pointer none) b ∧
  br b
  (∃ (b : Bool),
  Eqv Go.Proofs.Try.prog BinOp.neq (23 : Nat) (Operand.tmp (19 : Nat)) (Operand.const (Value.pointer none)) w' (Value.pointer p) (Value.pointer none) b ∧
  br b (CallV Go.Proofs.Try.prog (9 : Nat) [] w' fun (e : Ending) (w' : World) ↦ ∃ (b : Bool), e = Ending.returned (Value.bool b) ∧ R (Ending.returned (Value.bool b)) w')
  (R (Ending.returned (Value.bool false)) w'))
  (br (decide ((200 : Int) < (↑scriptn : Int)))
  (∃ (b : Bool),
  Eqv Go.Proofs.Try.prog BinOp.neq (23 : Nat) (Operand.tmp (19 : Nat)) (Operand.const (Value.pointer none)) w' (Value.pointer p) (Value.pointer none) b ∧
  br b (CallV Go.Proofs.Try.prog (9 : Nat) [] w' fun (e : Ending) (w' : World) ↦ ∃ (b : Bool), e = Ending.returned (Value.bool b) ∧ R (Ending.returned (Value.bool b)) w')
  (R (Ending.returned (Value.bool false)) w'))
  (CallV Go.Proofs.Try.prog (10 : Nat) [Value.pointer p, Value.agg #[Value.slice none (0 : Nat) (0 : Nat), Value.int IntKind.i64 (0 : Int)], Value.slice scripta scriptn scriptc] w'
  fun (e : Ending) (w' : World) ↦
  ∃ (a : Option Addr),
  ∃ (l : Nat),
  ∃ (c : Nat),
  ∃ (i : Int),
  ∃ (b : Bool),
  e = Ending.returned (Value.tuple #[Value.agg #[Value.slice a l c, Value.int IntKind.i64 i], Value.bool b]) ∧
  ∀ (b_1 : Nat) (w1 : World),
  New w' (Obj.cells #[Value.slice none (0 : Nat) (0 : Nat), Value.int IntKind.i64 (0 : Int)] (28 : Nat)) b_1 w1 →
  ∃ (w1_1 : World),
  St Go.Proofs.Try.prog (28 : Nat) w1 (Addr.mk b_1 (0 : Nat) none) (Value.agg #[Value.slice a l c, Value.int IntKind.i64 i]) w1_1 ∧
  JoinP
  (fun (s : Bool) (w' : World) ↦
  br (!b) (R (Ending.returned (Value.bool false)) w')
  (CallV Go.Proofs.Try.prog (15 : Nat) [Value.pointer p, Value.int IntKind.i64 n] w' fun (e : Ending) (w' : World) ↦
  ∃ (b : Bool),
  e = Ending.returned (Value.bool b) ∧
  br (!b == s) (R (Ending.returned (Value.bool false)) w')
  (br s
  (∃ (w1 : World),
  St Go.Proofs.Try.prog (3 : Nat) w' (Addr.mk b_1 (1 : Nat) none) (Value.int IntKind.i64 n) w1 ∧
  ∃ (a : Option Addr),
  ∃ (l : Nat),
  ∃ (c : Nat),
  ∃ (i : Int),
  Ld Go.Proofs.Try.prog (28 : Nat) w1 (Addr.mk b_1 (0 : Nat) none) (Value.agg #[Value.slice a l c, Value.int IntKind.i64 i]) ∧
  CallV Go.Proofs.Try.prog (14 : Nat) [Value.pointer p, Value.agg #[Value.slice a l c, Value.int IntKind.i64 i]] w1
  fun (e : Ending) (w' : World) ↦
  ∃ (b : Bool),
  e = Ending.returned (Value.bool b) ∧
  br (!b) (R (Ending.returned (Value.bool false)) w')
  (LoopP
  (fun (s : Int) (w' : World) (next : Int → World → Prop) ↦
  br (decide (s < (↑scriptn : Int)))
  (onP scripta fun (a : Addr) ↦
  ((0 : Int) ≤ s ∧ s < (↑scriptn : Int)) ∧
  ∃ (i : Int),
  ∃ (i_1 : Int),
  ∃ (i_2 : Int),
  ∃ (s_1 : ByteArray),
  Ld Go.Proofs.Try.prog (43 : Nat) w' (Addr.add a (Int.toNat s * (4 : Nat)))
  (Value.agg
  #[Value.int IntKind.i64 i, Value.int IntKind.i64 i_1, Value.int IntKind.i64 i_2, Value.string s_1]) ∧
  ∀ (b : Nat) (w1 : World),
  New w'
  (Obj.cells
  #[Value.int IntKind.i64 (0 : Int), Value.int IntKind.i64 (0 : Int),
  Value.int IntKind.i64 (0 : Int), Value.string (ByteArray.mk #[])]
  (43 : Nat))
  b w1 →
  ∃ (w1_2 : World),
  St Go.Proofs.Try.prog (43 : Nat) w1 (Addr.mk b (0 : Nat) none)
  (Value.agg
  #[Value.int IntKind.i64 i, Value.int IntKind.i64 i_1, Value.int IntKind.i64 i_2,
  Value.string s_1])
  w1_2 ∧
  ∃ (i : Int),
  Ld Go.Proofs.Try.prog (3 : Nat) w1_2 (Addr.mk b (0 : Nat) none) (Value.int IntKind.i64 i) ∧
  br (!decide (i = (3 : Int)))
  (∃ (i : Int),
  ∃ (i_3 : Int),
  ∃ (i_4 : Int),
  ∃ (s_2 : ByteArray),
  Ld Go.Proofs.Try.prog (43 : Nat) w1_2 (Addr.mk b (0 : Nat) none)
  (Value.agg
  #[Value.int IntKind.i64 i, Value.int IntKind.i64 i_3,
  Value.int IntKind.i64 i_4, Value.string s_2]) ∧
  CallV Go.Proofs.Try.prog (16 : Nat)
  [Value.pointer p,
  Value.agg
  #[Value.int IntKind.i64 i, Value.int IntKind.i64 i_3,
  Value.int IntKind.i64 i_4, Value.string s_2]]
  w1_2 fun (e : Ending) (w' : World) ↦
  ∃ (i : Int),
  ∃ (i_5 : Int),
  e =
  Ending.returned
  (Value.tuple #[Value.int IntKind.i64 i, Value.int IntKind.i64 i_5]) ∧
  inR IntKind.i64 (s + (1 : Int)) ∧ next (s + (1 : Int)) w')
  (inR IntKind.i64 (s + (1 : Int)) ∧ next (s + (1 : Int)) w1_2))
  (CallV Go.Proofs.Try.prog (9 : Nat) [] (World.drew w') fun (e : Ending) (w' : World) ↦
  ∃ (b : Bool),
  e = Ending.returned (Value.bool b) ∧
  br b
  (∃ (i : Int),
  Ld Go.Proofs.Try.prog (3 : Nat) w' (Addr.mk b_1 (1 : Nat) none) (Value.int IntKind.i64 i) ∧
  CallV Go.Proofs.Try.prog (17 : Nat) [Value.pointer p] w' fun (e : Ending) (w' : World) ↦
  ∃ (i_1 : Int),
  e = Ending.returned (Value.int IntKind.i64 i_1) ∧
  Ld Go.Proofs.Try.prog (3 : Nat) w' (Addr.mk b_1 (1 : Nat) none) (Value.int IntKind.i64 i) ∧
  R (Ending.returned (Value.bool (decide (i_1 = i)))) w')
  (R (Ending.returned (Value.bool false)) w')))
  (0 : Int) w'))
  (∃ (a : Option Addr),
  ∃ (l : Nat),
  ∃ (c : Nat),
  ∃ (i : Int),
  Ld Go.Proofs.Try.prog (28 : Nat) w' (Addr.mk b_1 (0 : Nat) none) (Value.agg #[Value.slice a l c, Value.int IntKind.i64 i]) ∧
  CallV Go.Proofs.Try.prog (14 : Nat) [Value.pointer p, Value.agg #[Value.slice a l c, Value.int IntKind.i64 i]] w'
  fun (e : Ending) (w' : World) ↦
  ∃ (b : Bool),
  e = Ending.returned (Value.bool b) ∧
  br (!b) (R (Ending.returned (Value.bool false)) w')
  (LoopP
  (fun (s : Int) (w' : World) (next : Int → World → Prop) ↦
  br (decide (s < (↑scriptn : Int)))
  (onP scripta fun (a : Addr) ↦
  ((0 : Int) ≤ s ∧ s < (↑scriptn : Int)) ∧
  ∃ (i : Int),
  ∃ (i_1 : Int),
  ∃ (i_2 : Int),
  ∃ (s_1 : ByteArray),
  Ld Go.Proofs.Try.prog (43 : Nat) w' (Addr.add a (Int.toNat s * (4 : Nat)))
  (Value.agg
  #[Value.int IntKind.i64 i, Value.int IntKind.i64 i_1, Value.int IntKind.i64 i_2, Value.string s_1]) ∧
  ∀ (b : Nat) (w1 : World),
  New w'
  (Obj.cells
  #[Value.int IntKind.i64 (0 : Int), Value.int IntKind.i64 (0 : Int), Value.int IntKind.i64 (0 : Int),
  Value.string (ByteArray.mk #[])]
  (43 : Nat))
  b w1 →
  ∃ (w1_2 : World),
  St Go.Proofs.Try.prog (43 : Nat) w1 (Addr.mk b (0 : Nat) none)
  (Value.agg
  #[Value.int IntKind.i64 i, Value.int IntKind.i64 i_1, Value.int IntKind.i64 i_2,
  Value.string s_1])
  w1_2 ∧
  ∃ (i : Int),
  Ld Go.Proofs.Try.prog (3 : Nat) w1_2 (Addr.mk b (0 : Nat) none) (Value.int IntKind.i64 i) ∧
  br (!decide (i = (3 : Int)))
  (∃ (i : Int),
  ∃ (i_3 : Int),
  ∃ (i_4 : Int),
  ∃ (s_2 : ByteArray),
  Ld Go.Proofs.Try.prog (43 : Nat) w1_2 (Addr.mk b (0 : Nat) none)
  (Value.agg
  #[Value.int IntKind.i64 i, Value.int IntKind.i64 i_3, Value.int IntKind.i64 i_4,
  Value.string s_2]) ∧
  CallV Go.Proofs.Try.prog (16 : Nat)
  [Value.pointer p,
  Value.agg
  #[Value.int IntKind.i64 i, Value.int IntKind.i64 i_3, Value.int IntKind.i64 i_4,
  Value.string s_2]]
  w1_2 fun (e : Ending) (w' : World) ↦
  ∃ (i : Int),
  ∃ (i_5 : Int),
  e =
  Ending.returned
  (Value.tuple #[Value.int IntKind.i64 i, Value.int IntKind.i64 i_5]) ∧
  inR IntKind.i64 (s + (1 : Int)) ∧ next (s + (1 : Int)) w')
  (inR IntKind.i64 (s + (1 : Int)) ∧ next (s + (1 : Int)) w1_2))
  (CallV Go.Proofs.Try.prog (9 : Nat) [] (World.drew w') fun (e : Ending) (w' : World) ↦
  ∃ (b : Bool),
  e = Ending.returned (Value.bool b) ∧
  br b
  (∃ (i : Int),
  Ld Go.Proofs.Try.prog (3 : Nat) w' (Addr.mk b_1 (1 : Nat) none) (Value.int IntKind.i64 i) ∧
  CallV Go.Proofs.Try.prog (17 : Nat) [Value.pointer p] w' fun (e : Ending) (w' : World) ↦
  ∃ (i_1 : Int),
  e = Ending.returned (Value.int IntKind.i64 i_1) ∧
  Ld Go.Proofs.Try.prog (3 : Nat) w' (Addr.mk b_1 (1 : Nat) none) (Value.int IntKind.i64 i) ∧
  R (Ending.returned (Value.bool (decide (i_1 = i)))) w')
  (R (Ending.returned (Value.bool false)) w')))
  (0 : Int) w')))))
  fun (J : Bool → World → Prop) ↦ br (decide ((0 : Int) ≤ n)) (J (decide (n ≤ (4611686018427387904 : Int))) w1_1) (J false w1_1)))
theorem slateStamps.eq (scripta : Option Addr) (scriptn : Nat) (scriptc : Nat) (n : Int) (w : World) (R : Ending → World → Prop) : bodyV Go.Proofs.Try.prog slateStamps.an Go.Proofs.Try.f5 [.slice scripta scriptn scriptc, .int .i64 n] w R = slateStamps.vc scripta scriptn scriptc n w R := by kernel_rfl
theorem slateStamps.ok (scripta : Option Addr) (scriptn : Nat) (scriptc : Nat) (n : Int) (w : World) (R : Ending → World → Prop) (h : slateStamps.vc scripta scriptn scriptc n w R) : Calls Go.Proofs.Try.prog 5 #[.slice scripta scriptn scriptc, .int .i64 n] w R :=
  calls_of_bodyV noNum (an := slateStamps.an) (args := [.slice scripta scriptn scriptc, .int .i64 n]) Go.Proofs.Try.func5 (by kernel_rfl) ((slateStamps.eq scripta scriptn scriptc n w R).mpr h)

/-- incunable/incunablelaw11.SlateApart -/
def slateApart.an : An := { wraps := [], loops := [(10, [(58, .inl .i64)])], joins := [], ranges := [] }
def slateApart.vc (scripta : Option Addr) (scriptn : Nat) (scriptc : Nat) (morea : Option Addr) (moren : Nat) (morec : Nat) (slot : Int) (w : World) (R : Ending → World → Prop) : Prop :=
  CallV Go.Proofs.Try.prog (8 : Nat) [] w fun (e : Ending) (w' : World) ↦
  ∃ (p : Option Addr),
  e = Ending.returned (Value.pointer p) ∧
  ∃ (b : Bool),
  Eqv Go.Proofs.Try.prog BinOp.eql (23 : Nat) (Operand.tmp (18 : Nat)) (Operand.const (Value.pointer none)) w' (Value.pointer p) (Value.pointer none) b ∧
  br b
  (∃ (b : Bool),
  Eqv Go.Proofs.Try.prog BinOp.neq (23 : Nat) (Operand.tmp (30 : Nat)) (Operand.const (Value.pointer none)) w' (Value.pointer p) (Value.pointer none) b ∧
  br b (CallV Go.Proofs.Try.prog (9 : Nat) [] w' fun (e : Ending) (w' : World) ↦ ∃ (b : Bool), e = Ending.returned (Value.bool b) ∧ R (Ending.returned (Value.bool b)) w')
  (R (Ending.returned (Value.bool false)) w'))
  (br (decide ((200 : Int) < (↑scriptn : Int)))
  (∃ (b : Bool),
  Eqv Go.Proofs.Try.prog BinOp.neq (23 : Nat) (Operand.tmp (30 : Nat)) (Operand.const (Value.pointer none)) w' (Value.pointer p) (Value.pointer none) b ∧
  br b (CallV Go.Proofs.Try.prog (9 : Nat) [] w' fun (e : Ending) (w' : World) ↦ ∃ (b : Bool), e = Ending.returned (Value.bool b) ∧ R (Ending.returned (Value.bool b)) w')
  (R (Ending.returned (Value.bool false)) w'))
  (br (decide ((200 : Int) < (↑moren : Int)))
  (∃ (b : Bool),
  Eqv Go.Proofs.Try.prog BinOp.neq (23 : Nat) (Operand.tmp (30 : Nat)) (Operand.const (Value.pointer none)) w' (Value.pointer p) (Value.pointer none) b ∧
  br b (CallV Go.Proofs.Try.prog (9 : Nat) [] w' fun (e : Ending) (w' : World) ↦ ∃ (b : Bool), e = Ending.returned (Value.bool b) ∧ R (Ending.returned (Value.bool b)) w')
  (R (Ending.returned (Value.bool false)) w'))
  (CallV Go.Proofs.Try.prog (10 : Nat) [Value.pointer p, Value.agg #[Value.slice none (0 : Nat) (0 : Nat), Value.int IntKind.i64 (0 : Int)], Value.slice scripta scriptn scriptc] w'
  fun (e : Ending) (w' : World) ↦
  ∃ (a : Option Addr),
  ∃ (l : Nat),
  ∃ (c : Nat),
  ∃ (i : Int),
  ∃ (b : Bool),
  e = Ending.returned (Value.tuple #[Value.agg #[Value.slice a l c, Value.int IntKind.i64 i], Value.bool b]) ∧
  ∀ (b_1 : Nat) (w1 : World),
  New w' (Obj.cells #[Value.slice none (0 : Nat) (0 : Nat), Value.int IntKind.i64 (0 : Int)] (28 : Nat)) b_1 w1 →
  ∃ (w1_1 : World),
  St Go.Proofs.Try.prog (28 : Nat) w1 (Addr.mk b_1 (0 : Nat) none) (Value.agg #[Value.slice a l c, Value.int IntKind.i64 i]) w1_1 ∧
  CallV Go.Proofs.Try.prog (18 : Nat) [Value.pointer p] w1_1 fun (e : Ending) (w' : World) ↦
  ∃ (p_1 : Option Addr),
  e = Ending.returned (Value.pointer p_1) ∧
  ∃ (b_2 : Bool),
  Eqv Go.Proofs.Try.prog BinOp.eql (23 : Nat) (Operand.tmp (44 : Nat)) (Operand.const (Value.pointer none)) w' (Value.pointer p_1) (Value.pointer none) b_2 ∧
  br b_2 (R (Ending.returned (Value.bool false)) w')
  (br (!b) (R (Ending.returned (Value.bool false)) w')
  (CallV Go.Proofs.Try.prog (19 : Nat) [Value.pointer p_1, Value.int IntKind.i64 slot] w' fun (e : Ending) (w' : World) ↦
  ∃ (s : ByteArray),
  ∃ (b : Bool),
  e = Ending.returned (Value.tuple #[Value.string s, Value.bool b]) ∧
  LoopP
  (fun (s_1 : Int) (w' : World) (next : Int → World → Prop) ↦
  br (decide (s_1 < (↑moren : Int)))
  (onP morea fun (a : Addr) ↦
  ((0 : Int) ≤ s_1 ∧ s_1 < (↑moren : Int)) ∧
  ∃ (i : Int),
  ∃ (i_1 : Int),
  ∃ (i_2 : Int),
  ∃ (s : ByteArray),
  Ld Go.Proofs.Try.prog (43 : Nat) w' (Addr.add a (Int.toNat s_1 * (4 : Nat)))
  (Value.agg #[Value.int IntKind.i64 i, Value.int IntKind.i64 i_1, Value.int IntKind.i64 i_2, Value.string s]) ∧
  ∀ (b_3 : Nat) (w1 : World),
  New w'
  (Obj.cells
  #[Value.int IntKind.i64 (0 : Int), Value.int IntKind.i64 (0 : Int), Value.int IntKind.i64 (0 : Int),
  Value.string (ByteArray.mk #[])]
  (43 : Nat))
  b_3 w1 →
  ∃ (w1_2 : World),
  St Go.Proofs.Try.prog (43 : Nat) w1 (Addr.mk b_3 (0 : Nat) none)
  (Value.agg #[Value.int IntKind.i64 i, Value.int IntKind.i64 i_1, Value.int IntKind.i64 i_2, Value.string s])
  w1_2 ∧
  ∃ (i : Int),
  Ld Go.Proofs.Try.prog (3 : Nat) w1_2 (Addr.mk b_3 (0 : Nat) none) (Value.int IntKind.i64 i) ∧
  br (decide (i = (1 : Int)))
  (∃ (i : Int),
  Ld Go.Proofs.Try.prog (3 : Nat) w1_2 (Addr.mk b_3 (1 : Nat) none) (Value.int IntKind.i64 i) ∧
  br (decide (i = slot)) (inR IntKind.i64 (s_1 + (1 : Int)) ∧ next (s_1 + (1 : Int)) w1_2)
  (∃ (i : Int),
  Ld Go.Proofs.Try.prog (3 : Nat) w1_2 (Addr.mk b_3 (0 : Nat) none) (Value.int IntKind.i64 i) ∧
  br (decide (i = (2 : Int)))
  (∃ (i : Int),
  Ld Go.Proofs.Try.prog (3 : Nat) w1_2 (Addr.mk b_3 (1 : Nat) none) (Value.int IntKind.i64 i) ∧
  br (decide (i = slot)) (inR IntKind.i64 (s_1 + (1 : Int)) ∧ next (s_1 + (1 : Int)) w1_2)
  (∃ (i : Int),
  Ld Go.Proofs.Try.prog (3 : Nat) w1_2 (Addr.mk b_3 (0 : Nat) none)
  (Value.int IntKind.i64 i) ∧
  br (decide (i = (0 : Int)))
  (br (!b) (inR IntKind.i64 (s_1 + (1 : Int)) ∧ next (s_1 + (1 : Int)) w1_2)
  (∃ (i : Int),
  ∃ (i_3 : Int),
  ∃ (i_4 : Int),
  ∃ (s : ByteArray),
  Ld Go.Proofs.Try.prog (43 : Nat) w1_2 (Addr.mk b_3 (0 : Nat) none)
  (Value.agg
  #[Value.int IntKind.i64 i, Value.int IntKind.i64 i_3,
  Value.int IntKind.i64 i_4, Value.string s]) ∧
  CallV Go.Proofs.Try.prog (16 : Nat)
  [Value.pointer p_1,
  Value.agg
  #[Value.int IntKind.i64 i, Value.int IntKind.i64 i_3,
  Value.int IntKind.i64 i_4, Value.string s]]
  w1_2 fun (e : Ending) (w' : World) ↦
  ∃ (i : Int),
  ∃ (i_5 : Int),
  e =
  Ending.returned
  (Value.tuple
  #[Value.int IntKind.i64 i, Value.int IntKind.i64 i_5]) ∧
  inR IntKind.i64 (s_1 + (1 : Int)) ∧
  next (s_1 + (1 : Int)) w'))
  (∃ (i : Int),
  ∃ (i_3 : Int),
  ∃ (i_4 : Int),
  ∃ (s : ByteArray),
  Ld Go.Proofs.Try.prog (43 : Nat) w1_2 (Addr.mk b_3 (0 : Nat) none)
  (Value.agg
  #[Value.int IntKind.i64 i, Value.int IntKind.i64 i_3,
  Value.int IntKind.i64 i_4, Value.string s]) ∧
  CallV Go.Proofs.Try.prog (16 : Nat)
  [Value.pointer p_1,
  Value.agg
  #[Value.int IntKind.i64 i, Value.int IntKind.i64 i_3,
  Value.int IntKind.i64 i_4, Value.string s]]
  w1_2 fun (e : Ending) (w' : World) ↦
  ∃ (i : Int),
  ∃ (i_5 : Int),
  e =
  Ending.returned
  (Value.tuple
  #[Value.int IntKind.i64 i, Value.int IntKind.i64 i_5]) ∧
  inR IntKind.i64 (s_1 + (1 : Int)) ∧ next (s_1 + (1 : Int)) w')))
  (∃ (i : Int),
  Ld Go.Proofs.Try.prog (3 : Nat) w1_2 (Addr.mk b_3 (0 : Nat) none) (Value.int IntKind.i64 i) ∧
  br (decide (i = (0 : Int)))
  (br (!b) (inR IntKind.i64 (s_1 + (1 : Int)) ∧ next (s_1 + (1 : Int)) w1_2)
  (∃ (i : Int),
  ∃ (i_3 : Int),
  ∃ (i_4 : Int),
  ∃ (s : ByteArray),
  Ld Go.Proofs.Try.prog (43 : Nat) w1_2 (Addr.mk b_3 (0 : Nat) none)
  (Value.agg
  #[Value.int IntKind.i64 i, Value.int IntKind.i64 i_3,
  Value.int IntKind.i64 i_4, Value.string s]) ∧
  CallV Go.Proofs.Try.prog (16 : Nat)
  [Value.pointer p_1,
  Value.agg
  #[Value.int IntKind.i64 i, Value.int IntKind.i64 i_3,
  Value.int IntKind.i64 i_4, Value.string s]]
  w1_2 fun (e : Ending) (w' : World) ↦
  ∃ (i : Int),
  ∃ (i_5 : Int),
  e =
  Ending.returned
  (Value.tuple
  #[Value.int IntKind.i64 i, Value.int IntKind.i64 i_5]) ∧
  inR IntKind.i64 (s_1 + (1 : Int)) ∧ next (s_1 + (1 : Int)) w'))
  (∃ (i : Int),
  ∃ (i_3 : Int),
  ∃ (i_4 : Int),
  ∃ (s : ByteArray),
  Ld Go.Proofs.Try.prog (43 : Nat) w1_2 (Addr.mk b_3 (0 : Nat) none)
  (Value.agg
  #[Value.int IntKind.i64 i, Value.int IntKind.i64 i_3,
  Value.int IntKind.i64 i_4, Value.string s]) ∧
  CallV Go.Proofs.Try.prog (16 : Nat)
  [Value.pointer p_1,
  Value.agg
  #[Value.int IntKind.i64 i, Value.int IntKind.i64 i_3,
  Value.int IntKind.i64 i_4, Value.string s]]
  w1_2 fun (e : Ending) (w' : World) ↦
  ∃ (i : Int),
  ∃ (i_5 : Int),
  e =
  Ending.returned
  (Value.tuple
  #[Value.int IntKind.i64 i, Value.int IntKind.i64 i_5]) ∧
  inR IntKind.i64 (s_1 + (1 : Int)) ∧ next (s_1 + (1 : Int)) w'))))
  (∃ (i : Int),
  Ld Go.Proofs.Try.prog (3 : Nat) w1_2 (Addr.mk b_3 (0 : Nat) none) (Value.int IntKind.i64 i) ∧
  br (decide (i = (2 : Int)))
  (∃ (i : Int),
  Ld Go.Proofs.Try.prog (3 : Nat) w1_2 (Addr.mk b_3 (1 : Nat) none) (Value.int IntKind.i64 i) ∧
  br (decide (i = slot)) (inR IntKind.i64 (s_1 + (1 : Int)) ∧ next (s_1 + (1 : Int)) w1_2)
  (∃ (i : Int),
  Ld Go.Proofs.Try.prog (3 : Nat) w1_2 (Addr.mk b_3 (0 : Nat) none) (Value.int IntKind.i64 i) ∧
  br (decide (i = (0 : Int)))
  (br (!b) (inR IntKind.i64 (s_1 + (1 : Int)) ∧ next (s_1 + (1 : Int)) w1_2)
  (∃ (i : Int),
  ∃ (i_3 : Int),
  ∃ (i_4 : Int),
  ∃ (s : ByteArray),
  Ld Go.Proofs.Try.prog (43 : Nat) w1_2 (Addr.mk b_3 (0 : Nat) none)
  (Value.agg
  #[Value.int IntKind.i64 i, Value.int IntKind.i64 i_3,
  Value.int IntKind.i64 i_4, Value.string s]) ∧
  CallV Go.Proofs.Try.prog (16 : Nat)
  [Value.pointer p_1,
  Value.agg
  #[Value.int IntKind.i64 i, Value.int IntKind.i64 i_3,
  Value.int IntKind.i64 i_4, Value.string s]]
  w1_2 fun (e : Ending) (w' : World) ↦
  ∃ (i : Int),
  ∃ (i_5 : Int),
  e =
  Ending.returned
  (Value.tuple
  #[Value.int IntKind.i64 i, Value.int IntKind.i64 i_5]) ∧
  inR IntKind.i64 (s_1 + (1 : Int)) ∧ next (s_1 + (1 : Int)) w'))
  (∃ (i : Int),
  ∃ (i_3 : Int),
  ∃ (i_4 : Int),
  ∃ (s : ByteArray),
  Ld Go.Proofs.Try.prog (43 : Nat) w1_2 (Addr.mk b_3 (0 : Nat) none)
  (Value.agg
  #[Value.int IntKind.i64 i, Value.int IntKind.i64 i_3,
  Value.int IntKind.i64 i_4, Value.string s]) ∧
  CallV Go.Proofs.Try.prog (16 : Nat)
  [Value.pointer p_1,
  Value.agg
  #[Value.int IntKind.i64 i, Value.int IntKind.i64 i_3,
  Value.int IntKind.i64 i_4, Value.string s]]
  w1_2 fun (e : Ending) (w' : World) ↦
  ∃ (i : Int),
  ∃ (i_5 : Int),
  e =
  Ending.returned
  (Value.tuple
  #[Value.int IntKind.i64 i, Value.int IntKind.i64 i_5]) ∧
  inR IntKind.i64 (s_1 + (1 : Int)) ∧ next (s_1 + (1 : Int)) w')))
  (∃ (i : Int),
  Ld Go.Proofs.Try.prog (3 : Nat) w1_2 (Addr.mk b_3 (0 : Nat) none) (Value.int IntKind.i64 i) ∧
  br (decide (i = (0 : Int)))
  (br (!b) (inR IntKind.i64 (s_1 + (1 : Int)) ∧ next (s_1 + (1 : Int)) w1_2)
  (∃ (i : Int),
  ∃ (i_3 : Int),
  ∃ (i_4 : Int),
  ∃ (s : ByteArray),
  Ld Go.Proofs.Try.prog (43 : Nat) w1_2 (Addr.mk b_3 (0 : Nat) none)
  (Value.agg
  #[Value.int IntKind.i64 i, Value.int IntKind.i64 i_3,
  Value.int IntKind.i64 i_4, Value.string s]) ∧
  CallV Go.Proofs.Try.prog (16 : Nat)
  [Value.pointer p_1,
  Value.agg
  #[Value.int IntKind.i64 i, Value.int IntKind.i64 i_3,
  Value.int IntKind.i64 i_4, Value.string s]]
  w1_2 fun (e : Ending) (w' : World) ↦
  ∃ (i : Int),
  ∃ (i_5 : Int),
  e =
  Ending.returned
  (Value.tuple #[Value.int IntKind.i64 i, Value.int IntKind.i64 i_5]) ∧
  inR IntKind.i64 (s_1 + (1 : Int)) ∧ next (s_1 + (1 : Int)) w'))
  (∃ (i : Int),
  ∃ (i_3 : Int),
  ∃ (i_4 : Int),
  ∃ (s : ByteArray),
  Ld Go.Proofs.Try.prog (43 : Nat) w1_2 (Addr.mk b_3 (0 : Nat) none)
  (Value.agg
  #[Value.int IntKind.i64 i, Value.int IntKind.i64 i_3, Value.int IntKind.i64 i_4,
  Value.string s]) ∧
  CallV Go.Proofs.Try.prog (16 : Nat)
  [Value.pointer p_1,
  Value.agg
  #[Value.int IntKind.i64 i, Value.int IntKind.i64 i_3,
  Value.int IntKind.i64 i_4, Value.string s]]
  w1_2 fun (e : Ending) (w' : World) ↦
  ∃ (i : Int),
  ∃ (i_5 : Int),
  e =
  Ending.returned
  (Value.tuple #[Value.int IntKind.i64 i, Value.int IntKind.i64 i_5]) ∧
  inR IntKind.i64 (s_1 + (1 : Int)) ∧ next (s_1 + (1 : Int)) w'))))
  (CallV Go.Proofs.Try.prog (19 : Nat) [Value.pointer p_1, Value.int IntKind.i64 slot] w' fun (e : Ending) (w' : World) ↦
  ∃ (s_2 : ByteArray),
  ∃ (b_3 : Bool),
  e = Ending.returned (Value.tuple #[Value.string s_2, Value.bool b_3]) ∧
  CallV Go.Proofs.Try.prog (9 : Nat) [] w' fun (e : Ending) (w' : World) ↦
  ∃ (b_4 : Bool),
  e = Ending.returned (Value.bool b_4) ∧
  br b_4
  (br (decide (s = s_2))
  (br (b == b_3)
  (∃ (a : Option Addr),
  ∃ (l : Nat),
  ∃ (c : Nat),
  ∃ (i : Int),
  Ld Go.Proofs.Try.prog (28 : Nat) w' (Addr.mk b_1 (0 : Nat) none)
  (Value.agg #[Value.slice a l c, Value.int IntKind.i64 i]) ∧
  CallV Go.Proofs.Try.prog (14 : Nat)
  [Value.pointer p, Value.agg #[Value.slice a l c, Value.int IntKind.i64 i]] w'
  fun (e : Ending) (w' : World) ↦
  ∃ (b : Bool), e = Ending.returned (Value.bool b) ∧ R (Ending.returned (Value.bool b)) w')
  (R (Ending.returned (Value.bool false)) w'))
  (R (Ending.returned (Value.bool false)) w'))
  (R (Ending.returned (Value.bool false)) w')))
  (0 : Int) w')))))
theorem slateApart.eq (scripta : Option Addr) (scriptn : Nat) (scriptc : Nat) (morea : Option Addr) (moren : Nat) (morec : Nat) (slot : Int) (w : World) (R : Ending → World → Prop) : bodyV Go.Proofs.Try.prog slateApart.an Go.Proofs.Try.f6 [.slice scripta scriptn scriptc, .slice morea moren morec, .int .i64 slot] w R = slateApart.vc scripta scriptn scriptc morea moren morec slot w R := by kernel_rfl
theorem slateApart.ok (scripta : Option Addr) (scriptn : Nat) (scriptc : Nat) (morea : Option Addr) (moren : Nat) (morec : Nat) (slot : Int) (w : World) (R : Ending → World → Prop) (h : slateApart.vc scripta scriptn scriptc morea moren morec slot w R) : Calls Go.Proofs.Try.prog 6 #[.slice scripta scriptn scriptc, .slice morea moren morec, .int .i64 slot] w R :=
  calls_of_bodyV noNum (an := slateApart.an) (args := [.slice scripta scriptn scriptc, .slice morea moren morec, .int .i64 slot]) Go.Proofs.Try.func6 (by kernel_rfl) ((slateApart.eq scripta scriptn scriptc morea moren morec slot w R).mpr h)

/-- incunable/incunablelaw11.SlateBack -/
def slateBack.an : An := { wraps := [], loops := [(12, [(67, .inl .i64)])], joins := [], ranges := [] }
def slateBack.vc (scripta : Option Addr) (scriptn : Nat) (scriptc : Nat) (morea : Option Addr) (moren : Nat) (morec : Nat) (w : World) (R : Ending → World → Prop) : Prop :=
  CallV Go.Proofs.Try.prog (8 : Nat) [] w fun (e : Ending) (w' : World) ↦
  ∃ (p : Option Addr),
  e = Ending.returned (Value.pointer p) ∧
  ∃ (b : Bool),
  Eqv Go.Proofs.Try.prog BinOp.eql (23 : Nat) (Operand.tmp (15 : Nat)) (Operand.const (Value.pointer none)) w' (Value.pointer p) (Value.pointer none) b ∧
  br b
  (∃ (b : Bool),
  Eqv Go.Proofs.Try.prog BinOp.neq (23 : Nat) (Operand.tmp (27 : Nat)) (Operand.const (Value.pointer none)) w' (Value.pointer p) (Value.pointer none) b ∧
  br b (CallV Go.Proofs.Try.prog (9 : Nat) [] w' fun (e : Ending) (w' : World) ↦ ∃ (b : Bool), e = Ending.returned (Value.bool b) ∧ R (Ending.returned (Value.bool b)) w')
  (R (Ending.returned (Value.bool false)) w'))
  (br (decide ((200 : Int) < (↑scriptn : Int)))
  (∃ (b : Bool),
  Eqv Go.Proofs.Try.prog BinOp.neq (23 : Nat) (Operand.tmp (27 : Nat)) (Operand.const (Value.pointer none)) w' (Value.pointer p) (Value.pointer none) b ∧
  br b (CallV Go.Proofs.Try.prog (9 : Nat) [] w' fun (e : Ending) (w' : World) ↦ ∃ (b : Bool), e = Ending.returned (Value.bool b) ∧ R (Ending.returned (Value.bool b)) w')
  (R (Ending.returned (Value.bool false)) w'))
  (br (decide ((200 : Int) < (↑moren : Int)))
  (∃ (b : Bool),
  Eqv Go.Proofs.Try.prog BinOp.neq (23 : Nat) (Operand.tmp (27 : Nat)) (Operand.const (Value.pointer none)) w' (Value.pointer p) (Value.pointer none) b ∧
  br b (CallV Go.Proofs.Try.prog (9 : Nat) [] w' fun (e : Ending) (w' : World) ↦ ∃ (b : Bool), e = Ending.returned (Value.bool b) ∧ R (Ending.returned (Value.bool b)) w')
  (R (Ending.returned (Value.bool false)) w'))
  (CallV Go.Proofs.Try.prog (10 : Nat) [Value.pointer p, Value.agg #[Value.slice none (0 : Nat) (0 : Nat), Value.int IntKind.i64 (0 : Int)], Value.slice scripta scriptn scriptc] w'
  fun (e : Ending) (w' : World) ↦
  ∃ (a : Option Addr),
  ∃ (l : Nat),
  ∃ (c : Nat),
  ∃ (i : Int),
  ∃ (b : Bool),
  e = Ending.returned (Value.tuple #[Value.agg #[Value.slice a l c, Value.int IntKind.i64 i], Value.bool b]) ∧
  ∀ (b_1 : Nat) (w1 : World),
  New w' (Obj.cells #[Value.slice none (0 : Nat) (0 : Nat), Value.int IntKind.i64 (0 : Int)] (28 : Nat)) b_1 w1 →
  ∃ (w1_1 : World),
  St Go.Proofs.Try.prog (28 : Nat) w1 (Addr.mk b_1 (0 : Nat) none) (Value.agg #[Value.slice a l c, Value.int IntKind.i64 i]) w1_1 ∧
  CallV Go.Proofs.Try.prog (20 : Nat) [Value.pointer p] w1_1 fun (e : Ending) (w' : World) ↦
  ∃ (a : Option Addr),
  ∃ (l : Nat),
  ∃ (c : Nat),
  e = Ending.returned (Value.slice a l c) ∧
  br (!b) (R (Ending.returned (Value.bool false)) w')
  (br (!decide ((↑l : Int) = (4096 : Int))) (R (Ending.returned (Value.bool false)) w')
  (CallV Go.Proofs.Try.prog (21 : Nat) [Value.slice a l c] w' fun (e : Ending) (w' : World) ↦
  ∃ (p_1 : Option Addr),
  ∃ (i : Int),
  e = Ending.returned (Value.tuple #[Value.pointer p_1, Value.int IntKind.i64 i]) ∧
  br (!decide (i = (0 : Int))) (R (Ending.returned (Value.bool false)) w')
  (∃ (b : Bool),
  Eqv Go.Proofs.Try.prog BinOp.eql (23 : Nat) (Operand.tmp (56 : Nat)) (Operand.const (Value.pointer none)) w' (Value.pointer p_1)
  (Value.pointer none) b ∧
  br b (R (Ending.returned (Value.bool false)) w')
  (∃ (a_2 : Option Addr),
  ∃ (l_1 : Nat),
  ∃ (c : Nat),
  ∃ (i : Int),
  Ld Go.Proofs.Try.prog (28 : Nat) w' (Addr.mk b_1 (0 : Nat) none)
  (Value.agg #[Value.slice a_2 l_1 c, Value.int IntKind.i64 i]) ∧
  CallV Go.Proofs.Try.prog (14 : Nat) [Value.pointer p_1, Value.agg #[Value.slice a_2 l_1 c, Value.int IntKind.i64 i]] w'
  fun (e : Ending) (w' : World) ↦
  ∃ (b : Bool),
  e = Ending.returned (Value.bool b) ∧
  br (!b) (R (Ending.returned (Value.bool false)) w')
  (LoopP
  (fun (s : Int) (w' : World) (next : Int → World → Prop) ↦
  br (decide (s < (↑l : Int)))
  (onP a fun (a_3 : Addr) ↦
  ((0 : Int) ≤ s ∧ s < (↑l : Int)) ∧
  ∃ (i : Int),
  Ld Go.Proofs.Try.prog (5 : Nat) w' (Addr.add a_3 (Int.toNat s * (1 : Nat))) (Value.int IntKind.u8 i) ∧
  onP a fun (a : Addr) ↦
  ((0 : Int) ≤ s ∧ s < (↑l : Int)) ∧
  ∃ (w1 : World),
  St Go.Proofs.Try.prog (5 : Nat) w' (Addr.add a (Int.toNat s * (1 : Nat)))
  (Value.int IntKind.u8
  (Vc.bits BinOp.xor IntKind.u8
  (if IntKind.signed IntKind.u8 = true then (-1 : Int) else IntKind.max IntKind.u8) i))
  w1 ∧
  inR IntKind.i64 (s + (1 : Int)) ∧ next (s + (1 : Int)) w1)
  (∃ (a : Option Addr),
  ∃ (l : Nat),
  ∃ (c : Nat),
  ∃ (i : Int),
  Ld Go.Proofs.Try.prog (28 : Nat) w' (Addr.mk b_1 (0 : Nat) none)
  (Value.agg #[Value.slice a l c, Value.int IntKind.i64 i]) ∧
  CallV Go.Proofs.Try.prog (10 : Nat)
  [Value.pointer p_1, Value.agg #[Value.slice a l c, Value.int IntKind.i64 i],
  Value.slice morea moren morec]
  w' fun (e : Ending) (w' : World) ↦
  ∃ (a : Option Addr),
  ∃ (l : Nat),
  ∃ (c : Nat),
  ∃ (i : Int),
  ∃ (b : Bool),
  e =
  Ending.returned
  (Value.tuple
  #[Value.agg #[Value.slice a l c, Value.int IntKind.i64 i], Value.bool b]) ∧
  ∀ (b_2 : Nat) (w1 : World),
  New w'
  (Obj.cells
  #[Value.slice none (0 : Nat) (0 : Nat), Value.int IntKind.i64 (0 : Int)]
  (28 : Nat))
  b_2 w1 →
  ∃ (w1_2 : World),
  St Go.Proofs.Try.prog (28 : Nat) w1 (Addr.mk b_2 (0 : Nat) none)
  (Value.agg #[Value.slice a l c, Value.int IntKind.i64 i]) w1_2 ∧
  CallV Go.Proofs.Try.prog (9 : Nat) [] w1_2 fun (e : Ending) (w' : World) ↦
  ∃ (b_3 : Bool),
  e = Ending.returned (Value.bool b_3) ∧
  br b_3
  (br b
  (∃ (a : Option Addr),
  ∃ (l : Nat),
  ∃ (c : Nat),
  ∃ (i : Int),
  Ld Go.Proofs.Try.prog (28 : Nat) w'
  (Addr.mk b_2 (0 : Nat) none)
  (Value.agg
  #[Value.slice a l c, Value.int IntKind.i64 i]) ∧
  CallV Go.Proofs.Try.prog (14 : Nat)
  [Value.pointer p_1,
  Value.agg
  #[Value.slice a l c, Value.int IntKind.i64 i]]
  w' fun (e : Ending) (w' : World) ↦
  ∃ (b : Bool),
  e = Ending.returned (Value.bool b) ∧
  br b
  (∃ (a : Option Addr),
  ∃ (l : Nat),
  ∃ (c : Nat),
  ∃ (i : Int),
  Ld Go.Proofs.Try.prog (28 : Nat) w'
  (Addr.mk b_1 (0 : Nat) none)
  (Value.agg
  #[Value.slice a l c,
  Value.int IntKind.i64 i]) ∧
  CallV Go.Proofs.Try.prog (14 : Nat)
  [Value.pointer p,
  Value.agg
  #[Value.slice a l c,
  Value.int IntKind.i64 i]]
  w' fun (e : Ending) (w' : World) ↦
  ∃ (b : Bool),
  e =
  Ending.returned
  (Value.bool b) ∧
  R
  (Ending.returned
  (Value.bool b))
  w')
  (R (Ending.returned (Value.bool false)) w'))
  (R (Ending.returned (Value.bool false)) w'))
  (R (Ending.returned (Value.bool false)) w')))
  (0 : Int) w'))))))))
theorem slateBack.eq (scripta : Option Addr) (scriptn : Nat) (scriptc : Nat) (morea : Option Addr) (moren : Nat) (morec : Nat) (w : World) (R : Ending → World → Prop) : bodyV Go.Proofs.Try.prog slateBack.an Go.Proofs.Try.f7 [.slice scripta scriptn scriptc, .slice morea moren morec] w R = slateBack.vc scripta scriptn scriptc morea moren morec w R := by kernel_rfl
theorem slateBack.ok (scripta : Option Addr) (scriptn : Nat) (scriptc : Nat) (morea : Option Addr) (moren : Nat) (morec : Nat) (w : World) (R : Ending → World → Prop) (h : slateBack.vc scripta scriptn scriptc morea moren morec w R) : Calls Go.Proofs.Try.prog 7 #[.slice scripta scriptn scriptc, .slice morea moren morec] w R :=
  calls_of_bodyV noNum (an := slateBack.an) (args := [.slice scripta scriptn scriptc, .slice morea moren morec]) Go.Proofs.Try.func7 (by kernel_rfl) ((slateBack.eq scripta scriptn scriptc morea moren morec w R).mpr h)


end Go.Proofs.Ytmaocnnhfmledaa
