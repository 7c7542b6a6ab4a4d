/- Of each function the statement that the calculus reckons, printed by a program, and that it is that statement. -/
import Derived.Test.YtiagjabdfppgkaaGreatVcCode
import Derived.Test.YtiagjabdfppgkaaGreatChecked
set_option linter.unusedVariables false
set_option maxRecDepth 100000
namespace Go.Proofs.YtiagjabdfppgkaaGreat
open Go Go.Vc

/-- no function bears the name that the model takes apart -/
theorem noNum : NoNum Tryz.prog := by
  have h : Tryz.prog.funcs.toList.all (fun fn => !(fn.name == "runtime.NumGoroutine")) = true := by kernel_rfl
  intro f fn hf
  have := List.all_eq_true.1 h fn (by have := Array.mem_of_getElem? hf; simpa using this)
  simpa using this

/-- incunable/vault.New -/
def new.an : An := { wraps := [], loops := [], joins := [], ranges := [] }
def new.vc (room : Int) (w : World) (R : Ending → World → Prop) : Prop := ∀ b w1, New w (Obj.map #[] 0) b w1 → ∀ b_1 w1_1, New w1 (Obj.map #[] 0) b_1 w1_1 → ∀ b_2 w1, New w1_1 (Obj.cells #[Value.int IntKind.i64 (min (max room (0 : Int)) (65536 : Int)), Value.slice none 0 0,
 Value.map (some b), Value.map (some b_1), Value.slice none 0 0, Value.int IntKind.i64 0, Value.int IntKind.i64 0, Value.bool false] 76) b_2 w1 → R (Ending.returned (Value.pointer (some (Addr.mk b_2 0
 none)))) w1
theorem new.eq (room : Int) (w : World) (R : Ending → World → Prop) : bodyV Tryz.prog new.an Tryz.f19 [.int .i64 room] w R = new.vc room w R := by kernel_rfl
theorem new.ok (room : Int) (w : World) (R : Ending → World → Prop) (h : new.vc room w R) : Calls Tryz.prog 19 #[.int .i64 room] w R :=
  calls_of_bodyV noNum (an := new.an) (args := [.int .i64 room]) Tryz.func19 (by kernel_rfl) ((new.eq room w R).mpr h)

/-- (*incunable/vault.Disk).Used -/
def used.an : An := { wraps := [], loops := [(3, [(3, .inl .i64)])], joins := [], ranges := [] }
def used.vc (d : Option Addr) (w : World) (R : Ending → World → Prop) : Prop := onP d fun a ↦ ∃ m, Ld Tryz.prog 73 w (Addr.add a 2) (Value.map m) ∧ ∃ p w1, Rng Tryz.prog 73 w (Value.map m) (Value.pointer p) w1 ∧ LoopP (fun (s : Int) (w' : World) (next : Int →
 World → Prop) ↦ (∃ w1, Nxt Tryz.prog false 0 w' (Value.pointer p) (Value.tuple #[Value.bool false]) w1 ∧ R (Ending.returned (Value.int IntKind.i64 s)) w1) ∨ ∃ k v w1, Nxt Tryz.prog
 false 0 w' (Value.pointer p) (Value.tuple #[Value.bool true, k, v]) w1 ∧ ∃ v i w1_1, Etr Tryz.prog w1 (Value.pointer p) (Value.tuple #[v, Value.int IntKind.i64 i]) w1_1 ∧ onP d fun a ↦ ∃ a_1
 l c, Ld Tryz.prog 72 w1_1 (Addr.add a 1) (Value.slice a_1 l c) ∧ onP a_1 fun a ↦ ((0 : Int) ≤ i ∧ i < (↑l : Int)) ∧ ∃ p, Ld Tryz.prog 79 w1_1 (Addr.add a (Int.toNat i * 1))
 (Value.pointer p) ∧ onP p fun a ↦ ∃ a_2 l c, Ld Tryz.prog 94 w1_1 a (Value.slice a_2 l c) ∧ inR IntKind.i64 (s + (↑l : Int)) ∧ next (s + (↑l : Int)) w1_1) (0 : Int) w1
theorem used.eq (d : Option Addr) (w : World) (R : Ending → World → Prop) : bodyV Tryz.prog used.an Tryz.f82 [.pointer d] w R = used.vc d w R := by kernel_rfl
theorem used.ok (d : Option Addr) (w : World) (R : Ending → World → Prop) (h : used.vc d w R) : Calls Tryz.prog 82 #[.pointer d] w R :=
  calls_of_bodyV noNum (an := used.an) (args := [.pointer d]) Tryz.func82 (by kernel_rfl) ((used.eq d w R).mpr h)

/-- (*incunable/vault.Disk).Create -/
def create.an : An := { wraps := [], loops := [], joins := [], ranges := [] }
def create.vc (d : Option Addr) (name : ByteArray) (w : World) (R : Ending → World → Prop) : Prop := ∀ b w1, New w (Obj.cells #[Value.string name] 9) b w1 → onP d fun a ↦ ∃ b_1, Ld Tryz.prog 4 w1 (Addr.add a 7) (Value.bool b_1) ∧ br b_1 (R (Ending.returned (Value.int IntKind.i64 93)) w1) (∃
 s, Ld Tryz.prog 9 w1 (Addr.mk b 0 none) (Value.string s) ∧ CallV Tryz.prog 86 [Value.string s] w1 fun e w' ↦ ∃ b_2, e = Ending.returned (Value.bool b_2) ∧ br (!b_2) (R
 (Ending.returned (Value.int IntKind.i64 92)) w') (onP d fun a ↦ ∃ a_1 l c, Ld Tryz.prog 72 w' (Addr.add a 1) (Value.slice a_1 l c) ∧ ∀ b_3 w1, New w' (Obj.cells #[Value.int IntKind.i64 0] 3)
 b_3 w1 → ∃ w1_1, St Tryz.prog 3 w1 (Addr.mk b_3 0 none) (Value.int IntKind.i64 (↑l : Int)) w1_1 ∧ onP d fun a ↦ ∃ a_2 l c, Ld Tryz.prog 72 w1_1 (Addr.add a 1) (Value.slice a_2 l c) ∧
 ∀ b_4 w1, New w1_1 (Obj.map #[] 0) b_4 w1 → ∀ b_5 w1_2, New w1 (Obj.cells #[Value.slice none 0 0, Value.slice none 0 0, Value.map (some b_4)] 97) b_5 w1_2 → ∀ b_6 w1, New w1_2 (Obj.cells
 #[Value.pointer (some (Addr.mk b_5 0 none))] 79) b_6 w1 → ∃ a n m w1_3, App Tryz.prog #[72, 72] 72 w1 (Value.slice a_2 l c) (Value.slice (some (Addr.mk b_6 0 none)) 1 1) (Value.slice a n m)
 w1_3 ∧ onP d fun a_3 ↦ ∃ w1, St Tryz.prog 72 w1_3 (Addr.add a_3 1) (Value.slice a n m) w1 ∧ CallV Tryz.prog 87 [Value.pointer d, Value.func (Fn.func 88) #[] #[Value.pointer (some
 (Addr.mk b_3 0 none)), Value.pointer (some (Addr.mk b 0 none))]] w1 fun e w' ↦ ∃ i, e = Ending.returned (Value.int IntKind.i64 i) ∧ R (Ending.returned (Value.int IntKind.i64 i)) w'))
theorem create.eq (d : Option Addr) (name : ByteArray) (w : World) (R : Ending → World → Prop) : bodyV Tryz.prog create.an Tryz.f62 [.pointer d, .string name] w R = create.vc d name w R := by kernel_rfl
theorem create.ok (d : Option Addr) (name : ByteArray) (w : World) (R : Ending → World → Prop) (h : create.vc d name w R) : Calls Tryz.prog 62 #[.pointer d, .string name] w R :=
  calls_of_bodyV noNum (an := create.an) (args := [.pointer d, .string name]) Tryz.func62 (by kernel_rfl) ((create.eq d name w R).mpr h)

/-- (*incunable/vault.Disk).Write -/
def write.an : An := { wraps := [], loops := [], joins := [], ranges := [] }
def write.vc (d : Option Addr) (name : ByteArray) (n : Int) (ba : Option Addr) (bn : Nat) (bc : Nat) (w : World) (R : Ending → World → Prop) : Prop := CallV Tryz.prog 40 [Value.pointer d, Value.string name] w fun e w' ↦ ∃ p, e = Ending.returned (Value.pointer p) ∧ onP d fun a ↦ ∃ b, Ld Tryz.prog 4 w' (Addr.add a 7) (Value.bool b) ∧
 br b (R (Ending.returned (Value.int IntKind.i64 93)) w') (∃ b, Eqv Tryz.prog BinOp.eql 79 (Operand.tmp 20) (Operand.const (Value.pointer none)) w' (Value.pointer p) (Value.pointer none) b ∧
 br b (R (Ending.returned (Value.int IntKind.i64 90)) w') (br (decide (n < (0 : Int))) (R (Ending.returned (Value.int IntKind.i64 91)) w') (onP p fun a ↦ ∃ a_1 l c, Ld Tryz.prog 94 w' a
 (Value.slice a_1 l c) ∧ br (decide ((↑l : Int) < n)) (R (Ending.returned (Value.int IntKind.i64 91)) w') (br (decide ((512 : Int) < (↑bn : Int))) (R (Ending.returned (Value.int IntKind.i64 91)) w')
 (onP p fun a ↦ ∃ a_2 l c, Ld Tryz.prog 94 (World.drew w') a (Value.slice a_2 l c) ∧ br (decide (n = (↑l : Int))) (onP d fun a ↦ ∃ i, Ld Tryz.prog 3 (World.drew w') a (Value.int
 IntKind.i64 i) ∧ CallV Tryz.prog 82 [Value.pointer d] (World.drew w') fun e w' ↦ ∃ i_1, e = Ending.returned (Value.int IntKind.i64 i_1) ∧ Ld Tryz.prog 3 w' a (Value.int IntKind.i64
 i) ∧ br (decide (i ≤ i_1)) (R (Ending.returned (Value.int IntKind.i64 94)) w') (CallV Tryz.prog 57 [Value.pointer d] w' fun e w' ↦ ∃ b, e = Ending.returned (Value.bool b) ∧ br b (R
 (Ending.returned (Value.int IntKind.i64 95)) w') (∀ b w1, New w' (Obj.cells (List.toArray (zl Tryz.prog 117)) 117) b w1 → ∃ n_1 w1_1, Cpy Tryz.prog #[111, 111] 3 w1 (Value.slice
 (some (Addr.mk b 0 none)) 512 512) (Value.slice ba bn bc) (Value.int IntKind.i64 n_1) w1_1 ∧ onP p fun a ↦ ∃ a_3 l c, Ld Tryz.prog 94 w1_1 a (Value.slice a_3 l c) ∧ br (decide (n = (↑l :
 Int))) (onP p fun a ↦ ∃ a_4 l c, Ld Tryz.prog 94 (World.drew w1_1) a (Value.slice a_4 l c) ∧ ∃ (cs : List Value), Ld Tryz.prog 117 (World.drew w1_1) (Addr.mk b 0 none) (Value.agg
 (List.toArray cs)) ∧ ∃ (e : TypeId), ∃ (l_1 : List Value), BuildS Tryz.prog 94 1 [(0, Value.agg (List.toArray cs))] e l_1 ∧ ∀ b_1 w1, New (World.drew w1_1) (Obj.cells (List.toArray l_1) e)
 b_1 w1 → Ld Tryz.prog 94 w1 a (Value.slice a_4 l c) ∧ ∃ a n_2 m w1_2, App Tryz.prog #[94, 94] 94 w1 (Value.slice a_4 l c) (Value.slice (some (Addr.mk b_1 0 none)) 1 1) (Value.slice a
 n_2 m) w1_2 ∧ onP p fun a_6 ↦ ∃ w1, St Tryz.prog 94 w1_2 a_6 (Value.slice a n_2 m) w1 ∧ onP p fun a ↦ ∃ a_7 l c, Ld Tryz.prog 94 (World.drew w1) a (Value.slice a_7 l c) ∧ onP p fun a
 ↦ ∃ m, Ld Tryz.prog 95 (World.drew w1) (Addr.add a 2) (Value.map m) ∧ ∃ (cs : List Value), Ld Tryz.prog 117 (World.drew w1) (Addr.mk b 0 none) (Value.agg (List.toArray cs)) ∧ onP a_7
 fun a ↦ ((0 : Int) ≤ n ∧ n < (↑l : Int)) ∧ ∃ w1_3, St Tryz.prog 117 (World.drew w1) (Addr.add a (Int.toNat n * 512)) (Value.agg (List.toArray cs)) w1_3 ∧ ∃ v i w1, MEn Tryz.prog 95
 w1_3 (Value.map m) (Value.int IntKind.i64 n) (Value.tuple #[v, Value.int IntKind.i64 i]) w1 ∧ ∃ w1_4, ESt Tryz.prog 95 w1 (Value.map m) (Value.int IntKind.i64 i) (Value.bool true) w1_4 ∧
 CallV Tryz.prog 83 [Value.pointer d] w1_4 fun (e : Ending) (w' : World) ↦ ∃ i, e = Ending.returned (Value.int IntKind.i64 i) ∧ R (Ending.returned (Value.int IntKind.i64 i)) w') (onP p fun a ↦
 ∃ a_4 l c, Ld Tryz.prog 94 (World.drew w1_1) a (Value.slice a_4 l c) ∧ onP p fun a ↦ ∃ m, Ld Tryz.prog 95 (World.drew w1_1) (Addr.add a 2) (Value.map m) ∧ ∃ (cs : List Value), Ld
 Tryz.prog 117 (World.drew w1_1) (Addr.mk b 0 none) (Value.agg (List.toArray cs)) ∧ onP a_4 fun a ↦ ((0 : Int) ≤ n ∧ n < (↑l : Int)) ∧ ∃ w1, St Tryz.prog 117 (World.drew w1_1)
 (Addr.add a (Int.toNat n * 512)) (Value.agg (List.toArray cs)) w1 ∧ ∃ v i w1_2, MEn Tryz.prog 95 w1 (Value.map m) (Value.int IntKind.i64 n) (Value.tuple #[v, Value.int IntKind.i64 i]) w1_2 ∧
 ∃ w1, ESt Tryz.prog 95 w1_2 (Value.map m) (Value.int IntKind.i64 i) (Value.bool true) w1 ∧ CallV Tryz.prog 83 [Value.pointer d] w1 fun e w' ↦ ∃ i, e = Ending.returned (Value.int
 IntKind.i64 i) ∧ R (Ending.returned (Value.int IntKind.i64 i)) w')))) (CallV Tryz.prog 57 [Value.pointer d] (World.drew w') fun e w' ↦ ∃ b, e = Ending.returned (Value.bool b) ∧ br b (R
 (Ending.returned (Value.int IntKind.i64 95)) w') (∀ b w1, New w' (Obj.cells (List.toArray (zl Tryz.prog 117)) 117) b w1 → ∃ n_1 w1_1, Cpy Tryz.prog #[111, 111] 3 w1 (Value.slice
 (some (Addr.mk b 0 none)) 512 512) (Value.slice ba bn bc) (Value.int IntKind.i64 n_1) w1_1 ∧ onP p fun a ↦ ∃ a_3 l c, Ld Tryz.prog 94 w1_1 a (Value.slice a_3 l c) ∧ br (decide (n = (↑l :
 Int))) (onP p fun a ↦ ∃ a_4 l c, Ld Tryz.prog 94 (World.drew w1_1) a (Value.slice a_4 l c) ∧ ∃ (cs : List Value), Ld Tryz.prog 117 (World.drew w1_1) (Addr.mk b 0 none) (Value.agg
 (List.toArray cs)) ∧ ∃ (e : TypeId), ∃ (l_1 : List Value), BuildS Tryz.prog 94 1 [(0, Value.agg (List.toArray cs))] e l_1 ∧ ∀ b_1 w1, New (World.drew w1_1) (Obj.cells (List.toArray l_1) e)
 b_1 w1 → Ld Tryz.prog 94 w1 a (Value.slice a_4 l c) ∧ ∃ a n_2 m w1_2, App Tryz.prog #[94, 94] 94 w1 (Value.slice a_4 l c) (Value.slice (some (Addr.mk b_1 0 none)) 1 1) (Value.slice a
 n_2 m) w1_2 ∧ onP p fun a_6 ↦ ∃ w1, St Tryz.prog 94 w1_2 a_6 (Value.slice a n_2 m) w1 ∧ onP p fun a ↦ ∃ a_7 l c, Ld Tryz.prog 94 (World.drew w1) a (Value.slice a_7 l c) ∧ onP p fun a
 ↦ ∃ m, Ld Tryz.prog 95 (World.drew w1) (Addr.add a 2) (Value.map m) ∧ ∃ (cs : List Value), Ld Tryz.prog 117 (World.drew w1) (Addr.mk b 0 none) (Value.agg (List.toArray cs)) ∧ onP a_7
 fun a ↦ ((0 : Int) ≤ n ∧ n < (↑l : Int)) ∧ ∃ w1_3, St Tryz.prog 117 (World.drew w1) (Addr.add a (Int.toNat n * 512)) (Value.agg (List.toArray cs)) w1_3 ∧ ∃ v i w1, MEn Tryz.prog 95
 w1_3 (Value.map m) (Value.int IntKind.i64 n) (Value.tuple #[v, Value.int IntKind.i64 i]) w1 ∧ ∃ w1_4, ESt Tryz.prog 95 w1 (Value.map m) (Value.int IntKind.i64 i) (Value.bool true) w1_4 ∧
 CallV Tryz.prog 83 [Value.pointer d] w1_4 fun e w' ↦ ∃ i, e = Ending.returned (Value.int IntKind.i64 i) ∧ R (Ending.returned (Value.int IntKind.i64 i)) w') (onP p fun a ↦ ∃ a_4 l c, Ld
 Tryz.prog 94 (World.drew w1_1) a (Value.slice a_4 l c) ∧ onP p fun a ↦ ∃ m, Ld Tryz.prog 95 (World.drew w1_1) (Addr.add a 2) (Value.map m) ∧ ∃ (cs : List Value), Ld
 Tryz.prog 117 (World.drew w1_1) (Addr.mk b 0 none) (Value.agg (List.toArray cs)) ∧ onP a_4 fun a ↦ ((0 : Int) ≤ n ∧ n < (↑l : Int)) ∧ ∃ w1, St Tryz.prog 117 (World.drew w1_1)
 (Addr.add a (Int.toNat n * 512)) (Value.agg (List.toArray cs)) w1 ∧ ∃ v i w1_2, MEn Tryz.prog 95 w1 (Value.map m) (Value.int IntKind.i64 n) (Value.tuple #[v, Value.int IntKind.i64 i]) w1_2 ∧
 ∃ w1, ESt Tryz.prog 95 w1_2 (Value.map m) (Value.int IntKind.i64 i) (Value.bool true) w1 ∧ CallV Tryz.prog 83 [Value.pointer d] w1 fun e w' ↦ ∃ i, e = Ending.returned (Value.int
 IntKind.i64 i) ∧ R (Ending.returned (Value.int IntKind.i64 i)) w'))))))))
theorem write.eq (d : Option Addr) (name : ByteArray) (n : Int) (ba : Option Addr) (bn : Nat) (bc : Nat) (w : World) (R : Ending → World → Prop) : bodyV Tryz.prog write.an Tryz.f55 [.pointer d, .string name, .int .i64 n, .slice ba bn bc] w R = write.vc d name n ba bn bc w R := by kernel_rfl
theorem write.ok (d : Option Addr) (name : ByteArray) (n : Int) (ba : Option Addr) (bn : Nat) (bc : Nat) (w : World) (R : Ending → World → Prop) (h : write.vc d name n ba bn bc w R) : Calls Tryz.prog 55 #[.pointer d, .string name, .int .i64 n, .slice ba bn bc] w R :=
  calls_of_bodyV noNum (an := write.an) (args := [.pointer d, .string name, .int .i64 n, .slice ba bn bc]) Tryz.func55 (by kernel_rfl) ((write.eq d name n ba bn bc w R).mpr h)

/-- (*incunable/vault.Disk).Sync -/
def sync.an : An := { wraps := [], loops := [], joins := [], ranges := [] }
def sync.vc (d : Option Addr) (name : ByteArray) (w : World) (R : Ending → World → Prop) : Prop := CallV Tryz.prog 40 [Value.pointer d, Value.string name] w fun e w' ↦ ∃ p, e = Ending.returned (Value.pointer p) ∧ onP d fun a ↦ ∃ b, Ld Tryz.prog 4 w' (Addr.add a 7) (Value.bool b) ∧
 br b (R (Ending.returned (Value.int IntKind.i64 93)) w') (∃ b, Eqv Tryz.prog BinOp.eql 79 (Operand.tmp 15) (Operand.const (Value.pointer none)) w' (Value.pointer p) (Value.pointer none) b ∧
 br b (R (Ending.returned (Value.int IntKind.i64 90)) w') (CallV Tryz.prog 57 [Value.pointer d] w' fun e w' ↦ ∃ b, e = Ending.returned (Value.bool b) ∧ br b (R (Ending.returned (Value.int
 IntKind.i64 95)) w') (CallV Tryz.prog 28 [Value.pointer d] w' fun e w' ↦ ∃ b, e = Ending.returned (Value.bool b) ∧ br b (R (Ending.returned (Value.int IntKind.i64 93)) w') (onP p fun a ↦ ∃
 a_1 l c, Ld Tryz.prog 94 w' a (Value.slice a_1 l c) ∧ CallV Tryz.prog 58 [Value.slice a_1 l c] w' fun e w' ↦ ∃ a l c, e = Ending.returned (Value.slice a l c) ∧ onP p fun a_2 ↦ ∃ w1,
 St Tryz.prog 94 w' (Addr.add a_2 1) (Value.slice a l c) w1 ∧ onP p fun a ↦ ∃ m, Ld Tryz.prog 95 w1 (Addr.add a 2) (Value.map m) ∧ ∃ w1_1, Clr Tryz.prog #[95] 0 w1 (Value.map
 m) w1_1 ∧ R (Ending.returned (Value.int IntKind.i64 0)) w1_1))))
theorem sync.eq (d : Option Addr) (name : ByteArray) (w : World) (R : Ending → World → Prop) : bodyV Tryz.prog sync.an Tryz.f27 [.pointer d, .string name] w R = sync.vc d name w R := by kernel_rfl
theorem sync.ok (d : Option Addr) (name : ByteArray) (w : World) (R : Ending → World → Prop) (h : sync.vc d name w R) : Calls Tryz.prog 27 #[.pointer d, .string name] w R :=
  calls_of_bodyV noNum (an := sync.an) (args := [.pointer d, .string name]) Tryz.func27 (by kernel_rfl) ((sync.eq d name w R).mpr h)

/-- (*incunable/vault.Disk).Read -/
def read.an : An := { wraps := [], loops := [], joins := [], ranges := [] }
def read.vc (d : Option Addr) (name : ByteArray) (n : Int) (w : World) (R : Ending → World → Prop) : Prop := CallV Tryz.prog 40 [Value.pointer d, Value.string name] w fun e w' ↦ ∃ p, e = Ending.returned (Value.pointer p) ∧ onP d fun a ↦ ∃ b, Ld Tryz.prog 4 w' (Addr.add a 7) (Value.bool b) ∧
 br b (R (Ending.returned (Value.tuple #[Value.slice none 0 0, Value.int IntKind.i64 93])) w') (∃ b, Eqv Tryz.prog BinOp.eql 79 (Operand.tmp 19) (Operand.const (Value.pointer none)) w'
 (Value.pointer p) (Value.pointer none) b ∧ br b (R (Ending.returned (Value.tuple #[Value.slice none 0 0, Value.int IntKind.i64 90])) w') (br (decide (n < (0 : Int))) (R (Ending.returned (Value.tuple
 #[Value.slice none 0 0, Value.int IntKind.i64 91])) w') (onP p fun a ↦ ∃ a_1 l c, Ld Tryz.prog 94 w' a (Value.slice a_1 l c) ∧ br (decide ((↑l : Int) ≤ n)) (R (Ending.returned (Value.tuple
 #[Value.slice none 0 0, Value.int IntKind.i64 91])) w') (onP p fun a ↦ ∃ a_2 l c, Ld Tryz.prog 94 w' a (Value.slice a_2 l c) ∧ onP a_2 fun a ↦ ((0 : Int) ≤ n ∧ n < (↑l : Int)) ∧ ∃ (cs : List
 Value), Ld Tryz.prog 117 w' (Addr.add a (Int.toNat n * 512)) (Value.agg (List.toArray cs)) ∧ ∀ b w1, New w' (Obj.cells (List.toArray (zl Tryz.prog 117)) 117) b w1 → ∃ w1_1, St
 Tryz.prog 117 w1 (Addr.mk b 0 none) (Value.agg (List.toArray cs)) w1_1 ∧ R (Ending.returned (Value.tuple #[Value.slice (some (Addr.mk b 0 none)) 512 512, Value.int IntKind.i64 0])) w1_1))))
theorem read.eq (d : Option Addr) (name : ByteArray) (n : Int) (w : World) (R : Ending → World → Prop) : bodyV Tryz.prog read.an Tryz.f65 [.pointer d, .string name, .int .i64 n] w R = read.vc d name n w R := by kernel_rfl
theorem read.ok (d : Option Addr) (name : ByteArray) (n : Int) (w : World) (R : Ending → World → Prop) (h : read.vc d name n w R) : Calls Tryz.prog 65 #[.pointer d, .string name, .int .i64 n] w R :=
  calls_of_bodyV noNum (an := read.an) (args := [.pointer d, .string name, .int .i64 n]) Tryz.func65 (by kernel_rfl) ((read.eq d name n w R).mpr h)

/-- (*incunable/vault.Disk).Size -/
def size.an : An := { wraps := [], loops := [], joins := [], ranges := [] }
def size.vc (d : Option Addr) (name : ByteArray) (w : World) (R : Ending → World → Prop) : Prop := CallV Tryz.prog 40 [Value.pointer d, Value.string name] w fun e w' ↦ ∃ p, e = Ending.returned (Value.pointer p) ∧ ∃ b, Eqv Tryz.prog BinOp.eql 79 (Operand.tmp 9) (Operand.const
 (Value.pointer none)) w' (Value.pointer p) (Value.pointer none) b ∧ br b (R (Ending.returned (Value.int IntKind.i64 (-1 : Int))) w') (onP p fun a ↦ ∃ a_1 l c, Ld Tryz.prog 94 w' a
 (Value.slice a_1 l c) ∧ R (Ending.returned (Value.int IntKind.i64 (↑l : Int))) w')
theorem size.eq (d : Option Addr) (name : ByteArray) (w : World) (R : Ending → World → Prop) : bodyV Tryz.prog size.an Tryz.f18 [.pointer d, .string name] w R = size.vc d name w R := by kernel_rfl
theorem size.ok (d : Option Addr) (name : ByteArray) (w : World) (R : Ending → World → Prop) (h : size.vc d name w R) : Calls Tryz.prog 18 #[.pointer d, .string name] w R :=
  calls_of_bodyV noNum (an := size.an) (args := [.pointer d, .string name]) Tryz.func18 (by kernel_rfl) ((size.eq d name w R).mpr h)

/-- incunable/vault.right -/
def right.an : An := { wraps := [], loops := [], joins := [], ranges := [] }
def right.vc (name : ByteArray) (w : World) (R : Ending → World → Prop) : Prop := br (!decide (name = ByteArray.mk #[])) (R (Ending.returned (Value.bool (decide ((↑(ByteArray.size name) : Int) ≤ (60 : Int))))) w) (R (Ending.returned (Value.bool false)) w)
theorem right.eq (name : ByteArray) (w : World) (R : Ending → World → Prop) : bodyV Tryz.prog right.an Tryz.f86 [.string name] w R = right.vc name w R := by kernel_rfl
theorem right.ok (name : ByteArray) (w : World) (R : Ending → World → Prop) (h : right.vc name w R) : Calls Tryz.prog 86 #[.string name] w R :=
  calls_of_bodyV noNum (an := right.an) (args := [.string name]) Tryz.func86 (by kernel_rfl) ((right.eq name w R).mpr h)

/-- (*incunable/vault.Disk).rename -/
def drenameC.an : An := { wraps := [], loops := [], joins := [], ranges := [] }
def drenameC.vc (d : Option Addr) (x : Option Addr) (y : Option Addr) (w : World) (R : Ending → World → Prop) : Prop := onP d fun a ↦ ∃ m, Ld Tryz.prog 73 w (Addr.add a 2) (Value.map m) ∧ CallV Tryz.prog 88 [Value.map m, Value.pointer x, Value.pointer y] w fun e w' ↦ e = Ending.returned (Value.tuple
 #[]) ∧ onP d fun a ↦ ∃ a_1 l c, Ld Tryz.prog 74 w' (Addr.add a 4) (Value.slice a_1 l c) ∧ ∀ b w1, New w' (Obj.cells #[Value.func (Fn.func 88) #[] #[Value.pointer x, Value.pointer y]] 82) b w1
 → ∃ a n m w1_1, App Tryz.prog #[74, 74] 74 w1 (Value.slice a_1 l c) (Value.slice (some (Addr.mk b 0 none)) 1 1) (Value.slice a n m) w1_1 ∧ onP d fun a_2 ↦ ∃ w1, St Tryz.prog 74 w1_1
 (Addr.add a_2 4) (Value.slice a n m) w1 ∧ CallV Tryz.prog 83 [Value.pointer d] w1 fun e w' ↦ ∃ i, e = Ending.returned (Value.int IntKind.i64 i) ∧ R (Ending.returned (Value.int IntKind.i64 i))
 w'
theorem drenameC.eq (d : Option Addr) (x : Option Addr) (y : Option Addr) (w : World) (R : Ending → World → Prop) : bodyV Tryz.prog drenameC.an Tryz.f87 [.pointer d, (.func (.func 88) #[] #[.pointer x, .pointer y])] w R = drenameC.vc d x y w R := by kernel_rfl
theorem drenameC.ok (d : Option Addr) (x : Option Addr) (y : Option Addr) (w : World) (R : Ending → World → Prop) (h : drenameC.vc d x y w R) : Calls Tryz.prog 87 #[.pointer d, (.func (.func 88) #[] #[.pointer x, .pointer y])] w R :=
  calls_of_bodyV noNum (an := drenameC.an) (args := [.pointer d, (.func (.func 88) #[] #[.pointer x, .pointer y])]) Tryz.func87 (by kernel_rfl) ((drenameC.eq d x y w R).mpr h)

/-- (*incunable/vault.Disk).Create$1 -/
def createC.an : An := { wraps := [], loops := [], joins := [], ranges := [] }
def createC.vc (names : Option Nat) (free0 : Option Addr) (free1 : Option Addr) (w : World) (R : Ending → World → Prop) : Prop := ∃ s, (onP free1 fun a ↦ Ld Tryz.prog 9 w a (Value.string s)) ∧ ∃ i, (onP free0 fun a ↦ Ld Tryz.prog 3 w a (Value.int IntKind.i64 i)) ∧ ∃ w1, MUp Tryz.prog 73 w (Value.map
 names) (Value.string s) (Value.int IntKind.i64 i) w1 ∧ R (Ending.returned (Value.tuple #[])) w1
theorem createC.eq (names : Option Nat) (free0 : Option Addr) (free1 : Option Addr) (w : World) (R : Ending → World → Prop) : bodyV Tryz.prog createC.an Tryz.f88 [.map names, (.pointer free0), (.pointer free1)] w R = createC.vc names free0 free1 w R := by kernel_rfl
theorem createC.ok (names : Option Nat) (free0 : Option Addr) (free1 : Option Addr) (w : World) (R : Ending → World → Prop) (h : createC.vc names free0 free1 w R) : Calls Tryz.prog 88 #[.map names, (.pointer free0), (.pointer free1)] w R :=
  calls_of_bodyV noNum (an := createC.an) (args := [.map names, (.pointer free0), (.pointer free1)]) Tryz.func88 (by kernel_rfl) ((createC.eq names free0 free1 w R).mpr h)

/-- (*incunable/vault.Disk).find -/
def find.an : An := { wraps := [], loops := [], joins := [], ranges := [] }
def find.vc (d : Option Addr) (name : ByteArray) (w : World) (R : Ending → World → Prop) : Prop := onP d fun a ↦ ∃ m, Ld Tryz.prog 73 w (Addr.add a 2) (Value.map m) ∧ ∃ i b, Lk Tryz.prog 73 true w (Value.map m) (Value.string name) (Value.tuple #[Value.int IntKind.i64 i, Value.bool
 b]) ∧ br (!b) (R (Ending.returned (Value.pointer none)) w) (onP d fun a ↦ ∃ a_1 l c, Ld Tryz.prog 72 w (Addr.add a 1) (Value.slice a_1 l c) ∧ onP a_1 fun a ↦ ((0 : Int) ≤ i ∧ i < (↑l : Int))
 ∧ ∃ p, Ld Tryz.prog 79 w (Addr.add a (Int.toNat i * 1)) (Value.pointer p) ∧ R (Ending.returned (Value.pointer p)) w)
theorem find.eq (d : Option Addr) (name : ByteArray) (w : World) (R : Ending → World → Prop) : bodyV Tryz.prog find.an Tryz.f40 [.pointer d, .string name] w R = find.vc d name w R := by kernel_rfl
theorem find.ok (d : Option Addr) (name : ByteArray) (w : World) (R : Ending → World → Prop) (h : find.vc d name w R) : Calls Tryz.prog 40 #[.pointer d, .string name] w R :=
  calls_of_bodyV noNum (an := find.an) (args := [.pointer d, .string name]) Tryz.func40 (by kernel_rfl) ((find.eq d name w R).mpr h)

/-- (*incunable/vault.Disk).denies -/
def denies.an : An := { wraps := [], loops := [], joins := [], ranges := [] }
def denies.vc (d : Option Addr) (w : World) (R : Ending → World → Prop) : Prop := onP d fun a ↦ ∃ i, Ld Tryz.prog 3 w (Addr.add a 6) (Value.int IntKind.i64 i) ∧ br (decide (i = (0 : Int))) (R (Ending.returned (Value.bool false)) w) (onP d fun a ↦ ∃ i, Ld Tryz.prog
 3 w (Addr.add a 6) (Value.int IntKind.i64 i) ∧ inR IntKind.i64 (i - (1 : Int)) ∧ onP d fun a ↦ ∃ w1, St Tryz.prog 3 w (Addr.add a 6) (Value.int IntKind.i64 (i - (1 : Int))) w1 ∧ onP d fun a ↦
 ∃ i, Ld Tryz.prog 3 w1 (Addr.add a 6) (Value.int IntKind.i64 i) ∧ R (Ending.returned (Value.bool (decide (i = (0 : Int))))) w1)
theorem denies.eq (d : Option Addr) (w : World) (R : Ending → World → Prop) : bodyV Tryz.prog denies.an Tryz.f57 [.pointer d] w R = denies.vc d w R := by kernel_rfl
theorem denies.ok (d : Option Addr) (w : World) (R : Ending → World → Prop) (h : denies.vc d w R) : Calls Tryz.prog 57 #[.pointer d] w R :=
  calls_of_bodyV noNum (an := denies.an) (args := [.pointer d]) Tryz.func57 (by kernel_rfl) ((denies.eq d w R).mpr h)

/-- (*incunable/vault.Disk).done -/
def done.an : An := { wraps := [], loops := [], joins := [], ranges := [] }
def done.vc (d : Option Addr) (w : World) (R : Ending → World → Prop) : Prop := CallV Tryz.prog 28 [Value.pointer d] w fun e w' ↦ ∃ b, e = Ending.returned (Value.bool b) ∧ br b (R (Ending.returned (Value.int IntKind.i64 93)) w') (R (Ending.returned (Value.int IntKind.i64
 0)) w')
theorem done.eq (d : Option Addr) (w : World) (R : Ending → World → Prop) : bodyV Tryz.prog done.an Tryz.f83 [.pointer d] w R = done.vc d w R := by kernel_rfl
theorem done.ok (d : Option Addr) (w : World) (R : Ending → World → Prop) (h : done.vc d w R) : Calls Tryz.prog 83 #[.pointer d] w R :=
  calls_of_bodyV noNum (an := done.an) (args := [.pointer d]) Tryz.func83 (by kernel_rfl) ((done.eq d w R).mpr h)

/-- (*incunable/vault.Disk).dies -/
def dies.an : An := { wraps := [], loops := [], joins := [], ranges := [] }
def dies.vc (d : Option Addr) (w : World) (R : Ending → World → Prop) : Prop := onP d fun a ↦ ∃ i, Ld Tryz.prog 3 w (Addr.add a 5) (Value.int IntKind.i64 i) ∧ br (decide ((0 : Int) < i)) (onP d fun a ↦ ∃ i, Ld Tryz.prog 3 w (Addr.add a 5) (Value.int IntKind.i64
 i) ∧ inR IntKind.i64 (i - (1 : Int)) ∧ onP d fun a ↦ ∃ w1, St Tryz.prog 3 w (Addr.add a 5) (Value.int IntKind.i64 (i - (1 : Int))) w1 ∧ onP d fun a ↦ ∃ i, Ld Tryz.prog 3 w1 (Addr.add
 a 5) (Value.int IntKind.i64 i) ∧ onP d fun a ↦ ∃ w1_1, St Tryz.prog 4 w1 (Addr.add a 7) (Value.bool (decide (i = (0 : Int)))) w1_1 ∧ onP d fun a ↦ ∃ b, Ld Tryz.prog 4 w1_1 (Addr.add
 a 7) (Value.bool b) ∧ R (Ending.returned (Value.bool b)) w1_1) (onP d fun a ↦ ∃ b, Ld Tryz.prog 4 w (Addr.add a 7) (Value.bool b) ∧ R (Ending.returned (Value.bool b)) w)
theorem dies.eq (d : Option Addr) (w : World) (R : Ending → World → Prop) : bodyV Tryz.prog dies.an Tryz.f28 [.pointer d] w R = dies.vc d w R := by kernel_rfl
theorem dies.ok (d : Option Addr) (w : World) (R : Ending → World → Prop) (h : dies.vc d w R) : Calls Tryz.prog 28 #[.pointer d] w R :=
  calls_of_bodyV noNum (an := dies.an) (args := [.pointer d]) Tryz.func28 (by kernel_rfl) ((dies.eq d w R).mpr h)

/-- slices.Clone[[]incunable/vault.sector,incunable/vault.sector] -/
def cloneS.an : An := { wraps := [], loops := [], joins := [], ranges := [] }
def cloneS.vc (sa : Option Addr) (sn : Nat) (sc : Nat) (w : World) (R : Ending → World → Prop) : Prop := ∃ b, Eqv Tryz.prog BinOp.eql 94 (Operand.tmp 3) (Operand.const (Value.slice none 0 0)) w (Value.slice sa sn sc) (Value.slice none 0 0) b ∧ br b (R (Ending.returned (Value.slice none 0 0)) w)
 (∃ (e : TypeId), ∃ (l : List Value), BuildS Tryz.prog 94 0 [] e l ∧ ∀ b w1, New w (Obj.cells (List.toArray l) e) b w1 → ∃ a n m w1_1, App Tryz.prog #[94, 94] 94 w1 (Value.slice (some
 (Addr.mk b 0 none)) 0 0) (Value.slice sa sn sc) (Value.slice a n m) w1_1 ∧ R (Ending.returned (Value.slice a n m)) w1_1)
theorem cloneS.eq (sa : Option Addr) (sn : Nat) (sc : Nat) (w : World) (R : Ending → World → Prop) : bodyV Tryz.prog cloneS.an Tryz.f58 [.slice sa sn sc] w R = cloneS.vc sa sn sc w R := by kernel_rfl
theorem cloneS.ok (sa : Option Addr) (sn : Nat) (sc : Nat) (w : World) (R : Ending → World → Prop) (h : cloneS.vc sa sn sc w R) : Calls Tryz.prog 58 #[.slice sa sn sc] w R :=
  calls_of_bodyV noNum (an := cloneS.an) (args := [.slice sa sn sc]) Tryz.func58 (by kernel_rfl) ((cloneS.eq sa sn sc w R).mpr h)

/-- incunable/slate.New -/
def snew.an : An := { wraps := [], loops := [], joins := [], ranges := [] }
def snew.vc  (w : World) (R : Ending → World → Prop) : Prop := ∀ b w1, New w (Obj.cells (List.toArray (bigL Tryz.prog 132 [(2, Value.int IntKind.i64 4096)])) 132) b w1 → R (Ending.returned (Value.pointer (some (Addr.mk b 0 none)))) w1
theorem snew.eq  (w : World) (R : Ending → World → Prop) : bodyV Tryz.prog snew.an Tryz.f48 [] w R = snew.vc  w R := by kernel_rfl
theorem snew.ok  (w : World) (R : Ending → World → Prop) (h : snew.vc  w R) : Calls Tryz.prog 48 #[] w R :=
  calls_of_bodyV noNum (an := snew.an) (args := []) Tryz.func48 (by kernel_rfl) ((snew.eq  w R).mpr h)

/-- (*incunable/slate.Page).two -/
def two.an : An := { wraps := [], loops := [], joins := [], ranges := [] }
def two.vc (p : Option Addr) (at_ : Int) (w : World) (R : Ending → World → Prop) : Prop := onP p fun a ↦ ((0 : Int) ≤ at_ ∧ at_ < (↑(4096 : Nat) : Int)) ∧ ∃ i, Ld Tryz.prog 5 (World.drew w) (Addr.add a (Int.toNat at_ * 1)) (Value.int IntKind.u8 i) ∧ (0 : Int) ≤ (8 : Int) ∧ inR
 IntKind.i64 (IntKind.wrap IntKind.i64 i * (2 : Int) ^ min (Int.toNat (8 : Int)) (IntKind.bits IntKind.i64)) ∧ inR IntKind.i64 (at_ + (1 : Int)) ∧ onP p fun a ↦ ((0 : Int) ≤ at_ + (1 : Int) ∧ at_ + (1
 : Int) < (↑(4096 : Nat) : Int)) ∧ ∃ i_1, Ld Tryz.prog 5 (World.drew w) (Addr.add a (Int.toNat (at_ + (1 : Int)) * 1)) (Value.int IntKind.u8 i_1) ∧ R (Ending.returned (Value.int IntKind.i64
 (Vc.bits BinOp.or IntKind.i64 (IntKind.wrap IntKind.i64 i * (2 : Int) ^ min (Int.toNat (8 : Int)) (IntKind.bits IntKind.i64)) (IntKind.wrap IntKind.i64 i_1)))) (World.drew w)
theorem two.eq (p : Option Addr) (at_ : Int) (w : World) (R : Ending → World → Prop) : bodyV Tryz.prog two.an Tryz.f89 [.pointer p, .int .i64 at_] w R = two.vc p at_ w R := by kernel_rfl
theorem two.ok (p : Option Addr) (at_ : Int) (w : World) (R : Ending → World → Prop) (h : two.vc p at_ w R) : Calls Tryz.prog 89 #[.pointer p, .int .i64 at_] w R :=
  calls_of_bodyV noNum (an := two.an) (args := [.pointer p, .int .i64 at_]) Tryz.func89 (by kernel_rfl) ((two.eq p at_ w R).mpr h)

/-- (*incunable/slate.Page).lay -/
def lay.an : An := { wraps := [], loops := [], joins := [], ranges := [] }
def lay.vc (p : Option Addr) (at_ : Int) (n : Int) (w : World) (R : Ending → World → Prop) : Prop := inR IntKind.i64 (at_ + (1 : Int)) ∧ (0 : Int) ≤ (8 : Int) ∧ onP p fun a ↦ ((0 : Int) ≤ at_ ∧ at_ < (↑(4096 : Nat) : Int)) ∧ onP p fun a_1 ↦ ∃ w1, St Tryz.prog 5 (World.drew w) (Addr.add a
 (Int.toNat at_ * 1)) (Value.int IntKind.u8 (IntKind.wrap IntKind.u8 (Int.fdiv n ((2 : Int) ^ min (Int.toNat (8 : Int)) (IntKind.bits IntKind.i64))))) w1 ∧ ((0 : Int) ≤ at_ + (1 : Int) ∧ at_ + (1 :
 Int) < (↑(4096 : Nat) : Int)) ∧ ∃ w1_1, St Tryz.prog 5 w1 (Addr.add a_1 (Int.toNat (at_ + (1 : Int)) * 1)) (Value.int IntKind.u8 (IntKind.wrap IntKind.u8 n)) w1_1 ∧ R (Ending.returned
 (Value.tuple #[])) w1_1
theorem lay.eq (p : Option Addr) (at_ : Int) (n : Int) (w : World) (R : Ending → World → Prop) : bodyV Tryz.prog lay.an Tryz.f72 [.pointer p, .int .i64 at_, .int .i64 n] w R = lay.vc p at_ n w R := by kernel_rfl
theorem lay.ok (p : Option Addr) (at_ : Int) (n : Int) (w : World) (R : Ending → World → Prop) (h : lay.vc p at_ n w R) : Calls Tryz.prog 72 #[.pointer p, .int .i64 at_, .int .i64 n] w R :=
  calls_of_bodyV noNum (an := lay.an) (args := [.pointer p, .int .i64 at_, .int .i64 n]) Tryz.func72 (by kernel_rfl) ((lay.eq p at_ n w R).mpr h)

/-- (*incunable/slate.Page).slot -/
def slot.an : An := { wraps := [], loops := [], joins := [], ranges := [] }
def slot.vc (p : Option Addr) (k : Int) (w : World) (R : Ending → World → Prop) : Prop := br (decide (k < (0 : Int))) (R (Ending.returned (Value.tuple #[Value.int IntKind.i64 0, Value.int IntKind.i64 0])) w) (onP p fun a ↦ ∃ i, Ld Tryz.prog 3 w (Addr.add a 4096) (Value.int
 IntKind.i64 i) ∧ br (decide (i ≤ k)) (R (Ending.returned (Value.tuple #[Value.int IntKind.i64 0, Value.int IntKind.i64 0])) w) (inR IntKind.i64 ((4 : Int) * k) ∧ inR IntKind.i64 ((10 : Int) + (4 :
 Int) * k) ∧ CallV Tryz.prog 89 [Value.pointer p, Value.int IntKind.i64 ((10 : Int) + (4 : Int) * k)] w fun e w' ↦ ∃ i, e = Ending.returned (Value.int IntKind.i64 i) ∧ inR IntKind.i64 ((4 :
 Int) * k) ∧ inR IntKind.i64 ((10 : Int) + (4 : Int) * k) ∧ inR IntKind.i64 ((10 : Int) + (4 : Int) * k + (2 : Int)) ∧ CallV Tryz.prog 89 [Value.pointer p, Value.int IntKind.i64 ((10 : Int) +
 (4 : Int) * k + (2 : Int))] w' fun e w' ↦ ∃ i_1, e = Ending.returned (Value.int IntKind.i64 i_1) ∧ R (Ending.returned (Value.tuple #[Value.int IntKind.i64 i, Value.int IntKind.i64 i_1])) w'))
theorem slot.eq (p : Option Addr) (k : Int) (w : World) (R : Ending → World → Prop) : bodyV Tryz.prog slot.an Tryz.f68 [.pointer p, .int .i64 k] w R = slot.vc p k w R := by kernel_rfl
theorem slot.ok (p : Option Addr) (k : Int) (w : World) (R : Ending → World → Prop) (h : slot.vc p k w R) : Calls Tryz.prog 68 #[.pointer p, .int .i64 k] w R :=
  calls_of_bodyV noNum (an := slot.an) (args := [.pointer p, .int .i64 k]) Tryz.func68 (by kernel_rfl) ((slot.eq p k w R).mpr h)

/-- (*incunable/slate.Page).set -/
def set.an : An := { wraps := [], loops := [], joins := [], ranges := [] }
def set.vc (p : Option Addr) (k : Int) (at_ : Int) (long : Int) (w : World) (R : Ending → World → Prop) : Prop := inR IntKind.i64 ((4 : Int) * k) ∧ inR IntKind.i64 ((10 : Int) + (4 : Int) * k) ∧ CallV Tryz.prog 72 [Value.pointer p, Value.int IntKind.i64 ((10 : Int) + (4 : Int) * k), Value.int IntKind.i64
 at_] w fun e w' ↦ e = Ending.returned (Value.tuple #[]) ∧ inR IntKind.i64 ((4 : Int) * k) ∧ inR IntKind.i64 ((10 : Int) + (4 : Int) * k) ∧ inR IntKind.i64 ((10 : Int) + (4 : Int) * k + (2 : Int)) ∧
 CallV Tryz.prog 72 [Value.pointer p, Value.int IntKind.i64 ((10 : Int) + (4 : Int) * k + (2 : Int)), Value.int IntKind.i64 long] w' fun e w' ↦ e = Ending.returned (Value.tuple #[]) ∧ R
 (Ending.returned (Value.tuple #[])) w'
theorem set.eq (p : Option Addr) (k : Int) (at_ : Int) (long : Int) (w : World) (R : Ending → World → Prop) : bodyV Tryz.prog set.an Tryz.f71 [.pointer p, .int .i64 k, .int .i64 at_, .int .i64 long] w R = set.vc p k at_ long w R := by kernel_rfl
theorem set.ok (p : Option Addr) (k : Int) (at_ : Int) (long : Int) (w : World) (R : Ending → World → Prop) (h : set.vc p k at_ long w R) : Calls Tryz.prog 71 #[.pointer p, .int .i64 k, .int .i64 at_, .int .i64 long] w R :=
  calls_of_bodyV noNum (an := set.an) (args := [.pointer p, .int .i64 k, .int .i64 at_, .int .i64 long]) Tryz.func71 (by kernel_rfl) ((set.eq p k at_ long w R).mpr h)

/-- (*incunable/slate.Page).each -/
def each.an : An := { wraps := [], loops := [(1, [(11, .inl .i64)])], joins := [], ranges := [] }
def each.vc (p : Option Addr) (yield : Value) (w : World) (R : Ending → World → Prop) : Prop := onP p fun a ↦ ∃ i, Ld Tryz.prog 3 w (Addr.add a 4096) (Value.int IntKind.i64 i) ∧ LoopP (fun (s : Int) (w' : World) (next : Int → World → Prop) ↦ br (decide (s < i)) (CallV Tryz.prog
 68 [Value.pointer p, Value.int IntKind.i64 s] w' fun e w' ↦ ∃ i i_1, e = Ending.returned (Value.tuple #[Value.int IntKind.i64 i, Value.int IntKind.i64 i_1]) ∧ br (decide ((0 : Int) < i)) (CallX
 Tryz.prog yield [Value.int IntKind.i64 s] w' fun e w' ↦ ∃ b, e = Ending.returned (Value.bool b) ∧ br (!b) (R (Ending.returned (Value.tuple #[])) w') (inR IntKind.i64 (s + (1 : Int)) ∧ next (s
 + (1 : Int)) w')) (inR IntKind.i64 (s + (1 : Int)) ∧ next (s + (1 : Int)) w')) (R (Ending.returned (Value.tuple #[])) w')) (0 : Int) w
theorem each.eq (p : Option Addr) (yield : Value) (w : World) (R : Ending → World → Prop) : bodyV Tryz.prog each.an Tryz.f38 [.pointer p, yield] w R = each.vc p yield w R := by kernel_rfl
theorem each.ok (p : Option Addr) (yield : Value) (w : World) (R : Ending → World → Prop) (h : each.vc p yield w R) : Calls Tryz.prog 38 #[.pointer p, yield] w R :=
  calls_of_bodyV noNum (an := each.an) (args := [.pointer p, yield]) Tryz.func38 (by kernel_rfl) ((each.eq p yield w R).mpr h)

/-- (*incunable/slate.Page).Slots -/
def slots.an : An := { wraps := [], loops := [], joins := [], ranges := [(4, [(7, .inl .i64)])] }
def slots.vc (p : Option Addr) (w : World) (R : Ending → World → Prop) : Prop := ∀ b w1, New w (Obj.cells #[Value.slice none 0 0] 23) b w1 → ∃ (gf : FuncId), ∃ (fi : Array Value), ∃ (ca : Array Value), Value.func (Fn.func 38) #[Value.pointer p] #[] = Value.func (Fn.func gf) fi ca ∧
 HasBody Tryz.prog gf ∧ RangeP Tryz.prog gf (Array.toList fi) (Array.toList ca) (fun s ↦ [Value.int IntKind.i64 s]) (fun (s : Int) (w' : World) (begin : World → (World → Prop) → Prop)
 (kn kr : World → Prop) (kx : Nat → World → Prop) ↦ begin w' fun w2 ↦ ∃ a l c, Ld Tryz.prog 23 w2 (Addr.mk b 0 none) (Value.slice a l c) ∧ ∀ b_1 w1, New w2 (Obj.cells #[Value.int IntKind.i64
 s] 3) b_1 w1 → ∃ a_2 n m w1_1, App Tryz.prog #[23, 23] 23 w1 (Value.slice a l c) (Value.slice (some (Addr.mk b_1 0 none)) 1 1) (Value.slice a_2 n m) w1_1 ∧ ∃ w1, St Tryz.prog 23 w1_1
 (Addr.mk b 0 none) (Value.slice a_2 n m) w1 ∧ kn w1) w1 (fun D w' ↦ ∃ a l c, Ld Tryz.prog 23 w' (Addr.mk b 0 none) (Value.slice a l c) ∧ ∃ w1, ShutD w' D w1 ∧ R (Ending.returned (Value.slice
 a l c)) w1) (fun D w' ↦ False) fun (id D : Nat) (w' : World) ↦ False
theorem slots.eq (p : Option Addr) (w : World) (R : Ending → World → Prop) : bodyV Tryz.prog slots.an Tryz.f63 [.pointer p] w R = slots.vc p w R := by kernel_rfl
theorem slots.ok (p : Option Addr) (w : World) (R : Ending → World → Prop) (h : slots.vc p w R) : Calls Tryz.prog 63 #[.pointer p] w R :=
  calls_of_bodyV noNum (an := slots.an) (args := [.pointer p]) Tryz.func63 (by kernel_rfl) ((slots.eq p w R).mpr h)

/-- (*incunable/slate.Page).Room -/
def room.an : An := { wraps := [], loops := [], joins := [], ranges := [(4, [(9, .inl .i64)])] }
def room.vc (p : Option Addr) (w : World) (R : Ending → World → Prop) : Prop := ∀ b w1, New w (Obj.cells #[Value.pointer p] 37) b w1 → ∀ b_1 w1_1, New w1 (Obj.cells #[Value.int IntKind.i64 0] 3) b_1 w1_1 → ∃ w1, St Tryz.prog 3 w1_1 (Addr.mk b_1 0 none) (Value.int
 IntKind.i64 3600) w1 ∧ ∃ p, Ld Tryz.prog 37 w1 (Addr.mk b 0 none) (Value.pointer p) ∧ ∃ (gf : FuncId), ∃ (fi : Array Value), ∃ (ca : Array Value), Value.func (Fn.func 38) #[Value.pointer p]
 #[] = Value.func (Fn.func gf) fi ca ∧ HasBody Tryz.prog gf ∧ RangeP Tryz.prog gf (Array.toList fi) (Array.toList ca) (fun s ↦ [Value.int IntKind.i64 s]) (fun (s : Int) (w' : World)
 (begin : World → (World → Prop) → Prop) (kn kr : World → Prop) (kx : Nat → World → Prop) ↦ begin w' fun w2 ↦ ∃ p, Ld Tryz.prog 37 w2 (Addr.mk b 0 none) (Value.pointer p) ∧ CallV
 Tryz.prog 68 [Value.pointer p, Value.int IntKind.i64 s] w2 fun e w' ↦ ∃ i i_1, e = Ending.returned (Value.tuple #[Value.int IntKind.i64 i, Value.int IntKind.i64 i_1]) ∧ ∃ i, Ld
 Tryz.prog 3 w' (Addr.mk b_1 0 none) (Value.int IntKind.i64 i) ∧ inR IntKind.i64 (i - i_1) ∧ ∃ w1, St Tryz.prog 3 w' (Addr.mk b_1 0 none) (Value.int IntKind.i64 (i - i_1)) w1 ∧ kn w1)
 w1 (fun D w' ↦ ∃ i, Ld Tryz.prog 3 w' (Addr.mk b_1 0 none) (Value.int IntKind.i64 i) ∧ ∃ w1, ShutD w' D w1 ∧ R (Ending.returned (Value.int IntKind.i64 i)) w1) (fun D w' ↦ False) fun (id D :
 Nat) (w' : World) ↦ False
theorem room.eq (p : Option Addr) (w : World) (R : Ending → World → Prop) : bodyV Tryz.prog room.an Tryz.f69 [.pointer p] w R = room.vc p w R := by kernel_rfl
theorem room.ok (p : Option Addr) (w : World) (R : Ending → World → Prop) (h : room.vc p w R) : Calls Tryz.prog 69 #[.pointer p] w R :=
  calls_of_bodyV noNum (an := room.an) (args := [.pointer p]) Tryz.func69 (by kernel_rfl) ((room.eq p w R).mpr h)

/-- (*incunable/slate.Page).Get -/
def get.an : An := { wraps := [], loops := [], joins := [], ranges := [] }
def get.vc (p : Option Addr) (slot : Int) (w : World) (R : Ending → World → Prop) : Prop := CallV Tryz.prog 68 [Value.pointer p, Value.int IntKind.i64 slot] w fun e w' ↦ ∃ i i_1, e = Ending.returned (Value.tuple #[Value.int IntKind.i64 i, Value.int IntKind.i64 i_1]) ∧ br (decide (i =
 (0 : Int))) (R (Ending.returned (Value.tuple #[Value.string (ByteArray.mk #[]), Value.bool false])) w') (onP p fun a ↦ inR IntKind.i64 (i + i_1) ∧ ((0 : Int) ≤ i ∧ i ≤ i + i_1 ∧ i + i_1 ≤ (↑(4096 :
 Nat) : Int)) ∧ ∃ s, B2S Tryz.prog 111 9 w' (Value.slice (slA (some a) 4096 (Int.toNat i) 1) (Int.toNat (i + i_1) - Int.toNat i) (4096 - Int.toNat i)) (Value.string s) ∧ R (Ending.returned
 (Value.tuple #[Value.string s, Value.bool true])) w')
theorem get.eq (p : Option Addr) (slot : Int) (w : World) (R : Ending → World → Prop) : bodyV Tryz.prog get.an Tryz.f64 [.pointer p, .int .i64 slot] w R = get.vc p slot w R := by kernel_rfl
theorem get.ok (p : Option Addr) (slot : Int) (w : World) (R : Ending → World → Prop) (h : get.vc p slot w R) : Calls Tryz.prog 64 #[.pointer p, .int .i64 slot] w R :=
  calls_of_bodyV noNum (an := get.an) (args := [.pointer p, .int .i64 slot]) Tryz.func64 (by kernel_rfl) ((get.eq p slot w R).mpr h)

/-- (*incunable/slate.Page).drop -/
def drop.an : An := { wraps := [], loops := [(12, [])], joins := [], ranges := [(6, [(42, .inl .i64)])] }
def drop.vc (p : Option Addr) (slot : Int) (w : World) (R : Ending → World → Prop) : Prop := ∀ b w1, New w (Obj.cells #[Value.pointer p] 37) b w1 → ∃ p, Ld Tryz.prog 37 w1 (Addr.mk b 0 none) (Value.pointer p) ∧ CallV Tryz.prog 68 [Value.pointer p, Value.int IntKind.i64 slot]
 w1 fun e w' ↦ ∃ i i_1, e = Ending.returned (Value.tuple #[Value.int IntKind.i64 i, Value.int IntKind.i64 i_1]) ∧ ∀ b_1 w1, New w' (Obj.cells #[Value.int IntKind.i64 0] 3) b_1 w1 → ∀ b_2 w1_1, New w1
 (Obj.cells #[Value.int IntKind.i64 0] 3) b_2 w1_1 → ∃ w1, St Tryz.prog 3 w1_1 (Addr.mk b_1 0 none) (Value.int IntKind.i64 i) w1 ∧ ∃ w1_2, St Tryz.prog 3 w1 (Addr.mk b_2 0 none)
 (Value.int IntKind.i64 i_1) w1_2 ∧ ∃ i, Ld Tryz.prog 3 w1_2 (Addr.mk b_1 0 none) (Value.int IntKind.i64 i) ∧ br (decide (i = (0 : Int))) (R (Ending.returned (Value.tuple #[])) w1_2) (∃ p, Ld
 Tryz.prog 37 (World.drew w1_2) (Addr.mk b 0 none) (Value.pointer p) ∧ onP p fun a ↦ ∃ p, Ld Tryz.prog 37 (World.drew w1_2) (Addr.mk b 0 none) (Value.pointer p) ∧ onP p fun a_1 ↦ ∃ i,
 Ld Tryz.prog 3 (World.drew w1_2) (Addr.add a_1 4097) (Value.int IntKind.i64 i) ∧ ∃ i_2, Ld Tryz.prog 3 (World.drew w1_2) (Addr.mk b_2 0 none) (Value.int IntKind.i64 i_2) ∧ inR
 IntKind.i64 (i + i_2) ∧ ∃ i_3, Ld Tryz.prog 3 (World.drew w1_2) (Addr.mk b_1 0 none) (Value.int IntKind.i64 i_3) ∧ ∃ i_4, Ld Tryz.prog 3 (World.drew w1_2) (Addr.mk b_2 0 none)
 (Value.int IntKind.i64 i_4) ∧ inR IntKind.i64 (i_3 + i_4) ∧ ((0 : Int) ≤ i + i_2 ∧ i + i_2 ≤ i_3 + i_4 ∧ i_3 + i_4 ≤ (↑(4096 : Nat) : Int)) ∧ ∃ p, Ld Tryz.prog 37 (World.drew w1_2) (Addr.mk b
 0 none) (Value.pointer p) ∧ onP p fun a_2 ↦ ∃ p, Ld Tryz.prog 37 (World.drew w1_2) (Addr.mk b 0 none) (Value.pointer p) ∧ onP p fun a_3 ↦ ∃ i_5, Ld Tryz.prog 3 (World.drew w1_2)
 (Addr.add a_3 4097) (Value.int IntKind.i64 i_5) ∧ ∃ i_6, Ld Tryz.prog 3 (World.drew w1_2) (Addr.mk b_1 0 none) (Value.int IntKind.i64 i_6) ∧ ((0 : Int) ≤ i_5 ∧ i_5 ≤ i_6 ∧ i_6 ≤ (↑(4096 :
 Nat) : Int)) ∧ ∃ n w1, Cpy Tryz.prog #[111, 111] 3 (World.drew w1_2) (Value.slice (slA (some a) 4096 (Int.toNat (i + i_2)) 1) (Int.toNat (i_3 + i_4) - Int.toNat (i + i_2)) (4096 - Int.toNat
 (i + i_2))) (Value.slice (slA (some a_2) 4096 (Int.toNat i_5) 1) (Int.toNat i_6 - Int.toNat i_5) (4096 - Int.toNat i_5)) (Value.int IntKind.i64 n) w1 ∧ ∃ p, Ld Tryz.prog 37 w1 (Addr.mk b 0
 none) (Value.pointer p) ∧ ∃ (gf : FuncId), ∃ (fi : Array Value), ∃ (ca : Array Value), Value.func (Fn.func 38) #[Value.pointer p] #[] = Value.func (Fn.func gf) fi ca ∧ HasBody Tryz.prog gf ∧
 RangeP Tryz.prog gf (Array.toList fi) (Array.toList ca) (fun s ↦ [Value.int IntKind.i64 s]) (fun (s : Int) (w' : World) (begin : World → (World → Prop) → Prop) (kn kr : World → Prop) (kx :
 Nat → World → Prop) ↦ begin w' fun w2 ↦ ∃ p, Ld Tryz.prog 37 w2 (Addr.mk b 0 none) (Value.pointer p) ∧ CallV Tryz.prog 68 [Value.pointer p, Value.int IntKind.i64 s] w2 fun e w' ↦ ∃ i
 i_7, e = Ending.returned (Value.tuple #[Value.int IntKind.i64 i, Value.int IntKind.i64 i_7]) ∧ ∃ i_8, Ld Tryz.prog 3 w' (Addr.mk b_1 0 none) (Value.int IntKind.i64 i_8) ∧ br (decide (i ≤
 i_8)) (∃ p, Ld Tryz.prog 37 w' (Addr.mk b 0 none) (Value.pointer p) ∧ ∃ i_9, Ld Tryz.prog 3 w' (Addr.mk b_2 0 none) (Value.int IntKind.i64 i_9) ∧ inR IntKind.i64 (i + i_9) ∧ CallV
 Tryz.prog 71 [Value.pointer p, Value.int IntKind.i64 s, Value.int IntKind.i64 (i + i_9), Value.int IntKind.i64 i_7] w' fun e w' ↦ e = Ending.returned (Value.tuple #[]) ∧ kn w') (kn w')) w1
 (fun D w' ↦ ∃ p, Ld Tryz.prog 37 (World.drew w') (Addr.mk b 0 none) (Value.pointer p) ∧ onP p fun a ↦ ∃ p, Ld Tryz.prog 37 (World.drew w') (Addr.mk b 0 none) (Value.pointer p) ∧ onP
 p fun a_4 ↦ ∃ i, Ld Tryz.prog 3 (World.drew w') (Addr.add a_4 4097) (Value.int IntKind.i64 i) ∧ ∃ p, Ld Tryz.prog 37 (World.drew w') (Addr.mk b 0 none) (Value.pointer p) ∧ onP p fun
 a_5 ↦ ∃ i_7, Ld Tryz.prog 3 (World.drew w') (Addr.add a_5 4097) (Value.int IntKind.i64 i_7) ∧ ∃ i_8, Ld Tryz.prog 3 (World.drew w') (Addr.mk b_2 0 none) (Value.int IntKind.i64 i_8) ∧
 inR IntKind.i64 (i_7 + i_8) ∧ ((0 : Int) ≤ i ∧ i ≤ i_7 + i_8 ∧ i_7 + i_8 ≤ (↑(4096 : Nat) : Int)) ∧ ∃ w1, Clr Tryz.prog #[111] 0 (World.drew w') (Value.slice (slA (some a) 4096 (Int.toNat i)
 1) (Int.toNat (i_7 + i_8) - Int.toNat i) (4096 - Int.toNat i)) w1 ∧ ∃ p, Ld Tryz.prog 37 (World.drew w1) (Addr.mk b 0 none) (Value.pointer p) ∧ onP p fun a ↦ ∃ i, Ld Tryz.prog 3
 (World.drew w1) (Addr.add a 4097) (Value.int IntKind.i64 i) ∧ ∃ i_9, Ld Tryz.prog 3 (World.drew w1) (Addr.mk b_2 0 none) (Value.int IntKind.i64 i_9) ∧ inR IntKind.i64 (i + i_9) ∧ onP p fun a
 ↦ ∃ w1_3, St Tryz.prog 3 (World.drew w1) (Addr.add a 4097) (Value.int IntKind.i64 (i + i_9)) w1_3 ∧ ∃ p, Ld Tryz.prog 37 w1_3 (Addr.mk b 0 none) (Value.pointer p) ∧ CallV
 Tryz.prog 71 [Value.pointer p, Value.int IntKind.i64 slot, Value.int IntKind.i64 0, Value.int IntKind.i64 0] w1_3 fun (e : Ending) (w' : World) ↦ e = Ending.returned (Value.tuple #[]) ∧ LoopP
 (fun (s : PUnit) (w' : World) (next : PUnit → World → Prop) ↦ ∃ (p : Option Addr), Ld Tryz.prog 37 (World.drew w') (Addr.mk b 0 none) (Value.pointer p) ∧ onP p fun (a : Addr) ↦ ∃ (i : Int),
 Ld Tryz.prog 3 (World.drew w') (Addr.add a 4096) (Value.int IntKind.i64 i) ∧ br (decide ((0 : Int) < i)) (∃ (p : Option Addr), Ld Tryz.prog 37 (World.drew w') (Addr.mk b 0 none)
 (Value.pointer p) ∧ ∃ (p_1 : Option Addr), Ld Tryz.prog 37 (World.drew w') (Addr.mk b 0 none) (Value.pointer p_1) ∧ onP p_1 fun (a : Addr) ↦ ∃ (i : Int), Ld Tryz.prog 3 (World.drew
 w') (Addr.add a 4096) (Value.int IntKind.i64 i) ∧ inR IntKind.i64 (i - (1 : Int)) ∧ inR IntKind.i64 ((4 : Int) * (i - (1 : Int))) ∧ inR IntKind.i64 ((10 : Int) + (4 : Int) * (i - (1 : Int))) ∧ CallV
 Tryz.prog 89 [Value.pointer p, Value.int IntKind.i64 ((10 : Int) + (4 : Int) * (i - (1 : Int)))] (World.drew w') fun (e : Ending) (w' : World) ↦ ∃ (i : Int), e = Ending.returned (Value.int
 IntKind.i64 i) ∧ br (decide (i = (0 : Int))) (∃ (p : Option Addr), Ld Tryz.prog 37 w' (Addr.mk b 0 none) (Value.pointer p) ∧ onP p fun (a : Addr) ↦ ∃ (i : Int), Ld Tryz.prog 3 w'
 (Addr.add a 4096) (Value.int IntKind.i64 i) ∧ inR IntKind.i64 (i - (1 : Int)) ∧ onP p fun (a : Addr) ↦ ∃ (w1 : World), St Tryz.prog 3 w' (Addr.add a 4096) (Value.int IntKind.i64 (i - (1 :
 Int))) w1 ∧ next () w1) (∃ (p : Option Addr), Ld Tryz.prog 37 (World.drew w') (Addr.mk b 0 none) (Value.pointer p) ∧ ∃ (p_2 : Option Addr), Ld Tryz.prog 37 (World.drew w') (Addr.mk b
 0 none) (Value.pointer p_2) ∧ onP p_2 fun (a : Addr) ↦ ∃ (i : Int), Ld Tryz.prog 3 (World.drew w') (Addr.add a 4096) (Value.int IntKind.i64 i) ∧ CallV Tryz.prog 72 [Value.pointer p,
 Value.int IntKind.i64 8, Value.int IntKind.i64 i] (World.drew w') fun (e : Ending) (w' : World) ↦ e = Ending.returned (Value.tuple #[]) ∧ ∃ (w1 : World), ShutD w' D w1 ∧ R (Ending.returned
 (Value.tuple #[])) w1)) (∃ (p : Option Addr), Ld Tryz.prog 37 (World.drew (World.drew w')) (Addr.mk b 0 none) (Value.pointer p) ∧ ∃ (p_1 : Option Addr), Ld Tryz.prog 37 (World.drew
 (World.drew w')) (Addr.mk b 0 none) (Value.pointer p_1) ∧ onP p_1 fun (a : Addr) ↦ ∃ (i : Int), Ld Tryz.prog 3 (World.drew (World.drew w')) (Addr.add a 4096) (Value.int IntKind.i64 i) ∧ CallV
 Tryz.prog 72 [Value.pointer p, Value.int IntKind.i64 8, Value.int IntKind.i64 i] (World.drew (World.drew w')) fun (e : Ending) (w' : World) ↦ e = Ending.returned (Value.tuple #[]) ∧ ∃ (w1 :
 World), ShutD w' D w1 ∧ R (Ending.returned (Value.tuple #[])) w1)) () w') (fun D w' ↦ False) fun (id D : Nat) (w' : World) ↦ False)
theorem drop.eq (p : Option Addr) (slot : Int) (w : World) (R : Ending → World → Prop) : bodyV Tryz.prog drop.an Tryz.f70 [.pointer p, .int .i64 slot] w R = drop.vc p slot w R := by kernel_rfl
theorem drop.ok (p : Option Addr) (slot : Int) (w : World) (R : Ending → World → Prop) (h : drop.vc p slot w R) : Calls Tryz.prog 70 #[.pointer p, .int .i64 slot] w R :=
  calls_of_bodyV noNum (an := drop.an) (args := [.pointer p, .int .i64 slot]) Tryz.func70 (by kernel_rfl) ((drop.eq p slot w R).mpr h)

/-- (*incunable/slate.Page).Put -/
def put.an : An := { wraps := [], loops := [(10, [])], joins := [(7, [(7, .inl .i64)])], ranges := [] }
def put.vc (p : Option Addr) (slot : Int) (s : ByteArray) (w : World) (R : Ending → World → Prop) : Prop := br (decide (slot < (0 : Int))) (R (Ending.returned (Value.int IntKind.i64 110)) w) (br (decide ((120 : Int) ≤ slot)) (R (Ending.returned (Value.int IntKind.i64 110)) w) (CallV Tryz.prog 69
 [Value.pointer p] w fun e w' ↦ ∃ i, e = Ending.returned (Value.int IntKind.i64 i) ∧ CallV Tryz.prog 68 [Value.pointer p, Value.int IntKind.i64 slot] w' fun e w' ↦ ∃ i_1 i_2, e =
 Ending.returned (Value.tuple #[Value.int IntKind.i64 i_1, Value.int IntKind.i64 i_2]) ∧ JoinP (fun s_1 w' ↦ br (decide (s_1 < (↑(ByteArray.size s) : Int))) (R (Ending.returned (Value.int IntKind.i64
 111)) w') (CallV Tryz.prog 70 [Value.pointer p, Value.int IntKind.i64 slot] w' fun e w' ↦ e = Ending.returned (Value.tuple #[]) ∧ LoopP (fun (s_2 : PUnit) (w' : World) (next : PUnit → World →
 Prop) ↦ onP p fun a ↦ ∃ i, Ld Tryz.prog 3 w' (Addr.add a 4096) (Value.int IntKind.i64 i) ∧ br (decide (i ≤ slot)) (onP p fun a ↦ ∃ i, Ld Tryz.prog 3 w' (Addr.add a 4096) (Value.int
 IntKind.i64 i) ∧ CallV Tryz.prog 71 [Value.pointer p, Value.int IntKind.i64 i, Value.int IntKind.i64 0, Value.int IntKind.i64 0] w' fun e w' ↦ e = Ending.returned (Value.tuple #[]) ∧ onP p
 fun a ↦ ∃ i, Ld Tryz.prog 3 w' (Addr.add a 4096) (Value.int IntKind.i64 i) ∧ inR IntKind.i64 (i + (1 : Int)) ∧ onP p fun a ↦ ∃ w1, St Tryz.prog 3 w' (Addr.add a 4096) (Value.int
 IntKind.i64 (i + (1 : Int))) w1 ∧ next () w1) (onP p fun a ↦ ∃ i, Ld Tryz.prog 3 w' (Addr.add a 4096) (Value.int IntKind.i64 i) ∧ CallV Tryz.prog 72 [Value.pointer p, Value.int
 IntKind.i64 8, Value.int IntKind.i64 i] w' fun e w' ↦ e = Ending.returned (Value.tuple #[]) ∧ onP p fun a ↦ ∃ i, Ld Tryz.prog 3 w' (Addr.add a 4097) (Value.int IntKind.i64 i) ∧ inR
 IntKind.i64 (i - (↑(ByteArray.size s) : Int)) ∧ onP p fun a ↦ ∃ w1, St Tryz.prog 3 w' (Addr.add a 4097) (Value.int IntKind.i64 (i - (↑(ByteArray.size s) : Int))) w1 ∧ onP p fun a ↦ onP p fun
 a_1 ↦ ∃ i, Ld Tryz.prog 3 (World.drew w1) (Addr.add a_1 4097) (Value.int IntKind.i64 i) ∧ ((0 : Int) ≤ i ∧ i ≤ (↑(4096 : Nat) : Int)) ∧ ∃ n w1_1, Cpy Tryz.prog #[111, 9] 3
 (World.drew w1) (Value.slice (slA (some a) 4096 (Int.toNat i) 1) (4096 - Int.toNat i) (4096 - Int.toNat i)) (Value.string s) (Value.int IntKind.i64 n) w1_1 ∧ onP p fun a ↦ ∃ i, Ld Tryz.prog 3
 w1_1 (Addr.add a 4097) (Value.int IntKind.i64 i) ∧ CallV Tryz.prog 71 [Value.pointer p, Value.int IntKind.i64 slot, Value.int IntKind.i64 i, Value.int IntKind.i64 (↑(ByteArray.size s) : Int)]
 w1_1 fun e w' ↦ e = Ending.returned (Value.tuple #[]) ∧ R (Ending.returned (Value.int IntKind.i64 0)) w')) () w')) fun (J : Int → World → Prop) ↦ br (decide ((0 : Int) < i_1)) (inR IntKind.i64 (i +
 i_2) ∧ J (i + i_2) w') (J i w')))
theorem put.eq (p : Option Addr) (slot : Int) (s : ByteArray) (w : World) (R : Ending → World → Prop) : bodyV Tryz.prog put.an Tryz.f39 [.pointer p, .int .i64 slot, .string s] w R = put.vc p slot s w R := by kernel_rfl
theorem put.ok (p : Option Addr) (slot : Int) (s : ByteArray) (w : World) (R : Ending → World → Prop) (h : put.vc p slot s w R) : Calls Tryz.prog 39 #[.pointer p, .int .i64 slot, .string s] w R :=
  calls_of_bodyV noNum (an := put.an) (args := [.pointer p, .int .i64 slot, .string s]) Tryz.func39 (by kernel_rfl) ((put.eq p slot s w R).mpr h)

/-- (*incunable/slate.Page).Insert -/
def insert.an : An := { wraps := [], loops := [], joins := [], ranges := [(4, [(11, .inl .i64)])] }
def insert.vc (p : Option Addr) (s : ByteArray) (w : World) (R : Ending → World → Prop) : Prop := ∀ b w1, New w (Obj.cells #[Value.int IntKind.i64 0] 3) b w1 → ∃ w1_1, St Tryz.prog 3 w1 (Addr.mk b 0 none) (Value.int IntKind.i64 0) w1_1 ∧ ∃ (gf : FuncId), ∃ (fi : Array Value), ∃ (ca : Array
 Value), Value.func (Fn.func 38) #[Value.pointer p] #[] = Value.func (Fn.func gf) fi ca ∧ HasBody Tryz.prog gf ∧ RangeP Tryz.prog gf (Array.toList fi) (Array.toList ca) (fun s ↦
 [Value.int IntKind.i64 s]) (fun (s : Int) (w' : World) (begin : World → (World → Prop) → Prop) (kn kr : World → Prop) (kx : Nat → World → Prop) ↦ begin w' fun w2 ↦ ∃ i, Ld Tryz.prog 3 w2
 (Addr.mk b 0 none) (Value.int IntKind.i64 i) ∧ br (decide (s = i)) (∃ i, Ld Tryz.prog 3 w2 (Addr.mk b 0 none) (Value.int IntKind.i64 i) ∧ inR IntKind.i64 (i + (1 : Int)) ∧ ∃ w1, St
 Tryz.prog 3 w2 (Addr.mk b 0 none) (Value.int IntKind.i64 (i + (1 : Int))) w1 ∧ kn w1) (kn w2)) w1_1 (fun D w' ↦ ∃ i, Ld Tryz.prog 3 w' (Addr.mk b 0 none) (Value.int IntKind.i64 i) ∧
 br (decide ((120 : Int) ≤ i)) (∃ w1, ShutD w' D w1 ∧ R (Ending.returned (Value.tuple #[Value.int IntKind.i64 0, Value.int IntKind.i64 111])) w1) (∃ i, Ld Tryz.prog 3 w' (Addr.mk b 0 none)
 (Value.int IntKind.i64 i) ∧ CallV Tryz.prog 39 [Value.pointer p, Value.int IntKind.i64 i, Value.string s] w' fun e w' ↦ ∃ i, e = Ending.returned (Value.int IntKind.i64 i) ∧ br (!decide (i =
 (0 : Int))) (∃ w1, ShutD w' D w1 ∧ R (Ending.returned (Value.tuple #[Value.int IntKind.i64 0, Value.int IntKind.i64 i])) w1) (∃ i, Ld Tryz.prog 3 w' (Addr.mk b 0 none) (Value.int IntKind.i64
 i) ∧ ∃ w1, ShutD w' D w1 ∧ R (Ending.returned (Value.tuple #[Value.int IntKind.i64 i, Value.int IntKind.i64 0])) w1))) (fun D w' ↦ False) fun (id D : Nat) (w' : World) ↦ False
theorem insert.eq (p : Option Addr) (s : ByteArray) (w : World) (R : Ending → World → Prop) : bodyV Tryz.prog insert.an Tryz.f16 [.pointer p, .string s] w R = insert.vc p s w R := by kernel_rfl
theorem insert.ok (p : Option Addr) (s : ByteArray) (w : World) (R : Ending → World → Prop) (h : insert.vc p s w R) : Calls Tryz.prog 16 #[.pointer p, .string s] w R :=
  calls_of_bodyV noNum (an := insert.an) (args := [.pointer p, .string s]) Tryz.func16 (by kernel_rfl) ((insert.eq p s w R).mpr h)

/-- (*incunable/slate.Page).Delete -/
def delete.an : An := { wraps := [], loops := [], joins := [], ranges := [] }
def delete.vc (p : Option Addr) (slot : Int) (w : World) (R : Ending → World → Prop) : Prop := CallV Tryz.prog 68 [Value.pointer p, Value.int IntKind.i64 slot] w fun e w' ↦ ∃ i i_1, e = Ending.returned (Value.tuple #[Value.int IntKind.i64 i, Value.int IntKind.i64 i_1]) ∧ br (decide (i =
 (0 : Int))) (R (Ending.returned (Value.int IntKind.i64 110)) w') (CallV Tryz.prog 70 [Value.pointer p, Value.int IntKind.i64 slot] w' fun e w' ↦ e = Ending.returned (Value.tuple #[]) ∧ R
 (Ending.returned (Value.int IntKind.i64 0)) w')
theorem delete.eq (p : Option Addr) (slot : Int) (w : World) (R : Ending → World → Prop) : bodyV Tryz.prog delete.an Tryz.f78 [.pointer p, .int .i64 slot] w R = delete.vc p slot w R := by kernel_rfl
theorem delete.ok (p : Option Addr) (slot : Int) (w : World) (R : Ending → World → Prop) (h : delete.vc p slot w R) : Calls Tryz.prog 78 #[.pointer p, .int .i64 slot] w R :=
  calls_of_bodyV noNum (an := delete.an) (args := [.pointer p, .int .i64 slot]) Tryz.func78 (by kernel_rfl) ((delete.eq p slot w R).mpr h)

/-- (*incunable/slate.Page).Stamp -/
def stamp.an : An := { wraps := [], loops := [(3, [(3, .inl .i64), (11, .inl .i64)])], joins := [], ranges := [] }
def stamp.vc (p : Option Addr) (w : World) (R : Ending → World → Prop) : Prop := onP p fun a ↦ ((0 : Int) ≤ (8 : Int) ∧ (8 : Int) ≤ (↑(4096 : Nat) : Int)) ∧ LoopP (fun (s : Int × Int) (w' : World) (next : Int × Int → World → Prop) ↦ br (decide (Prod.snd s < (↑(Int.toNat (8 : Int))
 : Int))) (((0 : Int) ≤ Prod.snd s ∧ Prod.snd s < (↑(Int.toNat (8 : Int)) : Int)) ∧ ∃ i, Ld Tryz.prog 5 w' (Addr.add a (Int.toNat (Prod.snd s) * 1)) (Value.int IntKind.u8 i) ∧ (0 : Int) ≤ (8 :
 Int) ∧ inR IntKind.i64 (Prod.fst s * (2 : Int) ^ min (Int.toNat (8 : Int)) (IntKind.bits IntKind.i64)) ∧ inR IntKind.i64 (Prod.snd s + (1 : Int)) ∧ next (Vc.bits BinOp.or IntKind.i64 (Prod.fst s * (2
 : Int) ^ min (Int.toNat (8 : Int)) (IntKind.bits IntKind.i64)) (IntKind.wrap IntKind.i64 i), Prod.snd s + (1 : Int)) w') (R (Ending.returned (Value.int IntKind.i64 (Prod.fst s))) w')) ((0 : Int), (0 :
 Int)) w
theorem stamp.eq (p : Option Addr) (w : World) (R : Ending → World → Prop) : bodyV Tryz.prog stamp.an Tryz.f53 [.pointer p] w R = stamp.vc p w R := by kernel_rfl
theorem stamp.ok (p : Option Addr) (w : World) (R : Ending → World → Prop) (h : stamp.vc p w R) : Calls Tryz.prog 53 #[.pointer p] w R :=
  calls_of_bodyV noNum (an := stamp.an) (args := [.pointer p]) Tryz.func53 (by kernel_rfl) ((stamp.eq p w R).mpr h)

/-- (*incunable/slate.Page).SetStamp -/
def setStamp.an : An := { wraps := [], loops := [(4, [(12, .inl .i64)])], joins := [], ranges := [] }
def setStamp.vc (p : Option Addr) (n : Int) (w : World) (R : Ending → World → Prop) : Prop := br (decide (n < (0 : Int))) (R (Ending.returned (Value.bool false)) w) (br (decide ((4611686018427387904 : Int) < n)) (R (Ending.returned (Value.bool false)) w) (LoopP (fun (s : Int) (w' : World) (next
 : Int → World → Prop) ↦ br (decide (s < (8 : Int))) (inR IntKind.i64 ((8 : Int) * s) ∧ inR IntKind.i64 ((56 : Int) - (8 : Int) * s) ∧ (0 : Int) ≤ (56 : Int) - (8 : Int) * s ∧ onP p fun a ↦ ((0 : Int)
 ≤ s ∧ s < (↑(4096 : Nat) : Int)) ∧ ∃ w1, St Tryz.prog 5 (World.drew w') (Addr.add a (Int.toNat s * 1)) (Value.int IntKind.u8 (IntKind.wrap IntKind.u8 (Int.fdiv n ((2 : Int) ^ min (Int.toNat
 ((56 : Int) - (8 : Int) * s)) (IntKind.bits IntKind.i64))))) w1 ∧ inR IntKind.i64 (s + (1 : Int)) ∧ next (s + (1 : Int)) w1) (R (Ending.returned (Value.bool true)) w')) (0 : Int) w))
theorem setStamp.eq (p : Option Addr) (n : Int) (w : World) (R : Ending → World → Prop) : bodyV Tryz.prog setStamp.an Tryz.f49 [.pointer p, .int .i64 n] w R = setStamp.vc p n w R := by kernel_rfl
theorem setStamp.ok (p : Option Addr) (n : Int) (w : World) (R : Ending → World → Prop) (h : setStamp.vc p n w R) : Calls Tryz.prog 49 #[.pointer p, .int .i64 n] w R :=
  calls_of_bodyV noNum (an := setStamp.an) (args := [.pointer p, .int .i64 n]) Tryz.func49 (by kernel_rfl) ((setStamp.eq p n w R).mpr h)

/-- (*incunable/slate.Page).Bytes -/
def bytes.an : An := { wraps := [], loops := [], joins := [], ranges := [] }
def bytes.vc (p : Option Addr) (w : World) (R : Ending → World → Prop) : Prop := onP p fun a ↦ ∃ (cs : List Value), Ld Tryz.prog 130 w a (Value.agg (List.toArray cs)) ∧ ∀ b w1, New w (Obj.cells (List.toArray (zl Tryz.prog 130)) 130) b w1 → ∃ w1_1, St
 Tryz.prog 130 w1 (Addr.mk b 0 none) (Value.agg (List.toArray cs)) w1_1 ∧ R (Ending.returned (Value.slice (some (Addr.mk b 0 none)) 4096 4096)) w1_1
theorem bytes.eq (p : Option Addr) (w : World) (R : Ending → World → Prop) : bodyV Tryz.prog bytes.an Tryz.f56 [.pointer p] w R = bytes.vc p w R := by kernel_rfl
theorem bytes.ok (p : Option Addr) (w : World) (R : Ending → World → Prop) (h : bytes.vc p w R) : Calls Tryz.prog 56 #[.pointer p] w R :=
  calls_of_bodyV noNum (an := bytes.an) (args := [.pointer p]) Tryz.func56 (by kernel_rfl) ((bytes.eq p w R).mpr h)

/-- (*incunable/slate.Page).Clone -/
def clone.an : An := { wraps := [], loops := [], joins := [], ranges := [] }
def clone.vc (p : Option Addr) (w : World) (R : Ending → World → Prop) : Prop := onP p fun a ↦ ∃ (cs : List Value), ∃ i i_1, Ld Tryz.prog 132 w a (Value.agg (List.toArray (cs ++ ([Value.int IntKind.i64 i] ++ ([Value.int IntKind.i64 i_1] ++ []))))) ∧ ∀ b w1, New w
 (Obj.cells (List.toArray (zl Tryz.prog 132)) 132) b w1 → ∃ w1_1, St Tryz.prog 132 w1 (Addr.mk b 0 none) (Value.agg (List.toArray (cs ++ ([Value.int IntKind.i64 i] ++ ([Value.int
 IntKind.i64 i_1] ++ []))))) w1_1 ∧ R (Ending.returned (Value.pointer (some (Addr.mk b 0 none)))) w1_1
theorem clone.eq (p : Option Addr) (w : World) (R : Ending → World → Prop) : bodyV Tryz.prog clone.an Tryz.f79 [.pointer p] w R = clone.vc p w R := by kernel_rfl
theorem clone.ok (p : Option Addr) (w : World) (R : Ending → World → Prop) (h : clone.vc p w R) : Calls Tryz.prog 79 #[.pointer p] w R :=
  calls_of_bodyV noNum (an := clone.an) (args := [.pointer p]) Tryz.func79 (by kernel_rfl) ((clone.eq p w R).mpr h)

/-- incunable/slate.Load -/
def load.an : An := { wraps := [], loops := [], joins := [], ranges := [(11, [(29, .inl .i64)])] }
def load.vc (ba : Option Addr) (bn : Nat) (bc : Nat) (w : World) (R : Ending → World → Prop) : Prop := ∀ b w1, New w (Obj.cells #[Value.slice ba bn bc] 111) b w1 → ∀ b_1 w1_1, New w1 (Obj.cells #[Value.pointer none] 37) b_1 w1_1 → ∀ b_2 w1, New w1_1 (Obj.cells #[Value.int IntKind.i64 0] 34) b_2 w1 → ∃ a
 l c, Ld Tryz.prog 111 w1 (Addr.mk b 0 none) (Value.slice a l c) ∧ br (!decide ((↑l : Int) = (4096 : Int))) (∃ w1_2, St Tryz.prog 37 w1 (Addr.mk b_1 0 none) (Value.pointer none) w1_2
 ∧ ∃ w1, St Tryz.prog 34 w1_2 (Addr.mk b_2 0 none) (Value.int IntKind.i64 112) w1 ∧ ∃ p, Ld Tryz.prog 37 w1 (Addr.mk b_1 0 none) (Value.pointer p) ∧ ∃ i, Ld Tryz.prog 34 w1
 (Addr.mk b_2 0 none) (Value.int IntKind.i64 i) ∧ R (Ending.returned (Value.tuple #[Value.pointer p, Value.int IntKind.i64 i])) w1) (∀ b_3 w1_2, New w1 (Obj.cells (List.toArray (zl Tryz.prog
 132)) 132) b_3 w1_2 → ∃ a l c, Ld Tryz.prog 111 (World.drew w1_2) (Addr.mk b 0 none) (Value.slice a l c) ∧ ∃ n w1, Cpy Tryz.prog #[111, 111] 3 (World.drew w1_2) (Value.slice (some
 (Addr.mk b_3 0 none)) 4096 4096) (Value.slice a l c) (Value.int IntKind.i64 n) w1 ∧ CallV Tryz.prog 89 [Value.pointer (some (Addr.mk b_3 0 none)), Value.int IntKind.i64 8] w1 fun e w' ↦ ∃ i,
 e = Ending.returned (Value.int IntKind.i64 i) ∧ ∃ w1, St Tryz.prog 3 w' (Addr.mk b_3 4096 none) (Value.int IntKind.i64 i) w1 ∧ CallV Tryz.prog 48 [] w1 fun e w' ↦ ∃ p, e =
 Ending.returned (Value.pointer p) ∧ ∀ b_4 w1, New w' (Obj.cells #[Value.pointer none] 37) b_4 w1 → ∃ w1_3, St Tryz.prog 37 w1 (Addr.mk b_4 0 none) (Value.pointer p) w1_3 ∧ ∃ i, Ld
 Tryz.prog 3 (World.drew w1_3) (Addr.mk b_3 4096 none) (Value.int IntKind.i64 i) ∧ br (decide ((120 : Int) < i)) (∃ w1, St Tryz.prog 37 (World.drew w1_3) (Addr.mk b_1 0 none)
 (Value.pointer none) w1 ∧ ∃ w1_4, St Tryz.prog 34 w1 (Addr.mk b_2 0 none) (Value.int IntKind.i64 112) w1_4 ∧ ∃ p, Ld Tryz.prog 37 w1_4 (Addr.mk b_1 0 none) (Value.pointer p) ∧ ∃ i,
 Ld Tryz.prog 34 w1_4 (Addr.mk b_2 0 none) (Value.int IntKind.i64 i) ∧ R (Ending.returned (Value.tuple #[Value.pointer p, Value.int IntKind.i64 i])) w1_4) (∃ p, Ld Tryz.prog 37
 (World.drew w1_3) (Addr.mk b_4 0 none) (Value.pointer p) ∧ CallV Tryz.prog 53 [Value.pointer (some (Addr.mk b_3 0 none))] (World.drew w1_3) fun e w' ↦ ∃ i, e = Ending.returned (Value.int
 IntKind.i64 i) ∧ Ld Tryz.prog 37 w' (Addr.mk b_4 0 none) (Value.pointer p) ∧ CallV Tryz.prog 49 [Value.pointer p, Value.int IntKind.i64 i] w' fun e w' ↦ ∃ b_5, e = Ending.returned
 (Value.bool b_5) ∧ br (!b_5) (∃ w1, St Tryz.prog 37 w' (Addr.mk b_1 0 none) (Value.pointer none) w1 ∧ ∃ w1_4, St Tryz.prog 34 w1 (Addr.mk b_2 0 none) (Value.int IntKind.i64 112) w1_4
 ∧ ∃ p, Ld Tryz.prog 37 w1_4 (Addr.mk b_1 0 none) (Value.pointer p) ∧ ∃ i, Ld Tryz.prog 34 w1_4 (Addr.mk b_2 0 none) (Value.int IntKind.i64 i) ∧ R (Ending.returned (Value.tuple
 #[Value.pointer p, Value.int IntKind.i64 i])) w1_4) (∃ (gf : FuncId), ∃ (fi : Array Value), ∃ (ca : Array Value), Value.func (Fn.func 38) #[Value.pointer (some (Addr.mk b_3 0 none))] #[] = Value.func
 (Fn.func gf) fi ca ∧ HasBody Tryz.prog gf ∧ RangeP Tryz.prog gf (Array.toList fi) (Array.toList ca) (fun s ↦ [Value.int IntKind.i64 s]) (fun (s : Int) (w' : World) (begin : World →
 (World → Prop) → Prop) (kn kr : World → Prop) (kx : Nat → World → Prop) ↦ begin w' fun w2 ↦ CallV Tryz.prog 68 [Value.pointer (some (Addr.mk b_3 0 none)), Value.int IntKind.i64 s] w2 fun e w'
 ↦ ∃ i i_1, e = Ending.returned (Value.tuple #[Value.int IntKind.i64 i, Value.int IntKind.i64 i_1]) ∧ br (decide (i < (10 : Int))) (∃ w1, St Tryz.prog 37 (World.drew w') (Addr.mk b_1 0 none)
 (Value.pointer none) w1 ∧ ∃ w1_4, St Tryz.prog 34 w1 (Addr.mk b_2 0 none) (Value.int IntKind.i64 112) w1_4 ∧ kr w1_4) (inR IntKind.i64 ((4096 : Int) - i) ∧ br (decide ((4096 : Int) - i <
 i_1)) (∃ w1, St Tryz.prog 37 (World.drew w') (Addr.mk b_1 0 none) (Value.pointer none) w1 ∧ ∃ w1_4, St Tryz.prog 34 w1 (Addr.mk b_2 0 none) (Value.int IntKind.i64 112) w1_4 ∧ kr
 w1_4) (∃ p, Ld Tryz.prog 37 (World.drew w') (Addr.mk b_4 0 none) (Value.pointer p) ∧ ∃ a l c, Ld Tryz.prog 111 (World.drew w') (Addr.mk b 0 none) (Value.slice a l c) ∧ inR
 IntKind.i64 (i + i_1) ∧ ((0 : Int) ≤ i ∧ i ≤ i + i_1 ∧ i + i_1 ≤ (↑c : Int)) ∧ ∃ s_1, B2S Tryz.prog 111 9 (World.drew w') (Value.slice (slA a c (Int.toNat i) 1) (Int.toNat (i + i_1) -
 Int.toNat i) (c - Int.toNat i)) (Value.string s_1) ∧ CallV Tryz.prog 39 [Value.pointer p, Value.int IntKind.i64 s, Value.string s_1] (World.drew w') fun e w' ↦ ∃ i, e = Ending.returned
 (Value.int IntKind.i64 i) ∧ br (!decide (i = (0 : Int))) (∃ w1, St Tryz.prog 37 w' (Addr.mk b_1 0 none) (Value.pointer none) w1 ∧ ∃ w1_4, St Tryz.prog 34 w1 (Addr.mk b_2 0 none)
 (Value.int IntKind.i64 112) w1_4 ∧ kr w1_4) (kn w')))) w' (fun D w' ↦ ∃ p, Ld Tryz.prog 37 w' (Addr.mk b_4 0 none) (Value.pointer p) ∧ ∃ w1, St Tryz.prog 37 w' (Addr.mk b_1 0 none)
 (Value.pointer p) w1 ∧ ∃ w1_4, St Tryz.prog 34 w1 (Addr.mk b_2 0 none) (Value.int IntKind.i64 0) w1_4 ∧ ∃ w1, ShutD w1_4 D w1 ∧ ∃ p, Ld Tryz.prog 37 w1 (Addr.mk b_1 0 none)
 (Value.pointer p) ∧ ∃ i, Ld Tryz.prog 34 w1 (Addr.mk b_2 0 none) (Value.int IntKind.i64 i) ∧ R (Ending.returned (Value.tuple #[Value.pointer p, Value.int IntKind.i64 i])) w1) (fun D w' ↦ ∃
 w1, ShutD w' D w1 ∧ ∃ p, Ld Tryz.prog 37 w1 (Addr.mk b_1 0 none) (Value.pointer p) ∧ ∃ i, Ld Tryz.prog 34 w1 (Addr.mk b_2 0 none) (Value.int IntKind.i64 i) ∧ R (Ending.returned
 (Value.tuple #[Value.pointer p, Value.int IntKind.i64 i])) w1) fun (id D : Nat) (w' : World) ↦ False)))
theorem load.eq (ba : Option Addr) (bn : Nat) (bc : Nat) (w : World) (R : Ending → World → Prop) : bodyV Tryz.prog load.an Tryz.f66 [.slice ba bn bc] w R = load.vc ba bn bc w R := by kernel_rfl
theorem load.ok (ba : Option Addr) (bn : Nat) (bc : Nat) (w : World) (R : Ending → World → Prop) (h : load.vc ba bn bc w R) : Calls Tryz.prog 66 #[.slice ba bn bc] w R :=
  calls_of_bodyV noNum (an := load.an) (args := [.slice ba bn bc]) Tryz.func66 (by kernel_rfl) ((load.eq ba bn bc w R).mpr h)

/-- incunable/incunableref11.Get -/
def rget.an : An := { wraps := [], loops := [(2, [(6, .inl .i64)])], joins := [], ranges := [] }
def rget.vc (p_La : Option Addr) (p_Ln : Nat) (p_Lc : Nat) (p_Stamp : Int) (slot : Int) (w : World) (R : Ending → World → Prop) : Prop := ∀ b w1, New w (Obj.cells #[Value.slice p_La p_Ln p_Lc, Value.int IntKind.i64 p_Stamp] 88) b w1 → LoopP (fun (s : Int) (w' : World) (next : Int → World → Prop) ↦ ∃ a l c, Ld Tryz.prog 86 w'
 (Addr.mk b 0 none) (Value.slice a l c) ∧ br (decide (s < (↑l : Int))) (∃ a l c, Ld Tryz.prog 86 w' (Addr.mk b 0 none) (Value.slice a l c) ∧ onP a fun a ↦ ((0 : Int) ≤ s ∧ s < (↑l : Int)) ∧ ∃
 i, Ld Tryz.prog 3 w' (Addr.add a (Int.toNat s * 2)) (Value.int IntKind.i64 i) ∧ br (decide (i = slot)) (∃ a l c, Ld Tryz.prog 86 w' (Addr.mk b 0 none) (Value.slice a l c) ∧ onP a fun
 a ↦ ((0 : Int) ≤ s ∧ s < (↑l : Int)) ∧ ∃ s_1, Ld Tryz.prog 9 w' (Addr.add (Addr.add a (Int.toNat s * 2)) 1) (Value.string s_1) ∧ R (Ending.returned (Value.tuple #[Value.string s_1, Value.bool
 true])) w') (inR IntKind.i64 (s + (1 : Int)) ∧ next (s + (1 : Int)) w')) (R (Ending.returned (Value.tuple #[Value.string (ByteArray.mk #[]), Value.bool false])) w')) (0 : Int) w1
theorem rget.eq (p_La : Option Addr) (p_Ln : Nat) (p_Lc : Nat) (p_Stamp : Int) (slot : Int) (w : World) (R : Ending → World → Prop) : bodyV Tryz.prog rget.an Tryz.f90 [.agg #[.slice p_La p_Ln p_Lc, .int .i64 p_Stamp], .int .i64 slot] w R = rget.vc p_La p_Ln p_Lc p_Stamp slot w R := by kernel_rfl
theorem rget.ok (p_La : Option Addr) (p_Ln : Nat) (p_Lc : Nat) (p_Stamp : Int) (slot : Int) (w : World) (R : Ending → World → Prop) (h : rget.vc p_La p_Ln p_Lc p_Stamp slot w R) : Calls Tryz.prog 90 #[.agg #[.slice p_La p_Ln p_Lc, .int .i64 p_Stamp], .int .i64 slot] w R :=
  calls_of_bodyV noNum (an := rget.an) (args := [.agg #[.slice p_La p_Ln p_Lc, .int .i64 p_Stamp], .int .i64 slot]) Tryz.func90 (by kernel_rfl) ((rget.eq p_La p_Ln p_Lc p_Stamp slot w R).mpr h)

/-- incunable/incunableref11.Room -/
def rroom.an : An := { wraps := [], loops := [(3, [(3, .inl .i64), (4, .inl .i64)])], joins := [], ranges := [] }
def rroom.vc (p_La : Option Addr) (p_Ln : Nat) (p_Lc : Nat) (p_Stamp : Int) (w : World) (R : Ending → World → Prop) : Prop := ∀ b w1, New w (Obj.cells #[Value.slice p_La p_Ln p_Lc, Value.int IntKind.i64 p_Stamp] 88) b w1 → LoopP (fun (s : Int × Int) (w' : World) (next : Int × Int → World → Prop) ↦ ∃ a l c, Ld
 Tryz.prog 86 w' (Addr.mk b 0 none) (Value.slice a l c) ∧ br (decide (Prod.snd s < (↑l : Int))) (∃ a l c, Ld Tryz.prog 86 w' (Addr.mk b 0 none) (Value.slice a l c) ∧ onP a fun a ↦ ((0
 : Int) ≤ Prod.snd s ∧ Prod.snd s < (↑l : Int)) ∧ ∃ s_1, Ld Tryz.prog 9 w' (Addr.add (Addr.add a (Int.toNat (Prod.snd s) * 2)) 1) (Value.string s_1) ∧ inR IntKind.i64 (Prod.fst s -
 (↑(ByteArray.size s_1) : Int)) ∧ inR IntKind.i64 (Prod.snd s + (1 : Int)) ∧ next (Prod.fst s - (↑(ByteArray.size s_1) : Int), Prod.snd s + (1 : Int)) w') (R (Ending.returned (Value.int IntKind.i64
 (Prod.fst s))) w')) ((3600 : Int), (0 : Int)) w1
theorem rroom.eq (p_La : Option Addr) (p_Ln : Nat) (p_Lc : Nat) (p_Stamp : Int) (w : World) (R : Ending → World → Prop) : bodyV Tryz.prog rroom.an Tryz.f76 [.agg #[.slice p_La p_Ln p_Lc, .int .i64 p_Stamp]] w R = rroom.vc p_La p_Ln p_Lc p_Stamp w R := by kernel_rfl
theorem rroom.ok (p_La : Option Addr) (p_Ln : Nat) (p_Lc : Nat) (p_Stamp : Int) (w : World) (R : Ending → World → Prop) (h : rroom.vc p_La p_Ln p_Lc p_Stamp w R) : Calls Tryz.prog 76 #[.agg #[.slice p_La p_Ln p_Lc, .int .i64 p_Stamp]] w R :=
  calls_of_bodyV noNum (an := rroom.an) (args := [.agg #[.slice p_La p_Ln p_Lc, .int .i64 p_Stamp]]) Tryz.func76 (by kernel_rfl) ((rroom.eq p_La p_Ln p_Lc p_Stamp w R).mpr h)

/-- incunable/incunableref11.without -/
def without.an : An := { wraps := [], loops := [(3, [(5, .inr 3), (6, .inl .i64)])], joins := [], ranges := [] }
def without.vc (la : Option Addr) (ln : Nat) (lc : Nat) (slot : Int) (w : World) (R : Ending → World → Prop) : Prop := LoopP (fun (s : (Option Addr × Nat × Nat) × Int) (w' : World) (next : (Option Addr × Nat × Nat) × Int → World → Prop) ↦ br (decide (Prod.snd s < (↑ln : Int))) (onP la fun a ↦ ((0 : Int) ≤ Prod.snd s ∧
 Prod.snd s < (↑ln : Int)) ∧ ∃ i, Ld Tryz.prog 3 w' (Addr.add a (Int.toNat (Prod.snd s) * 2)) (Value.int IntKind.i64 i) ∧ br (!decide (i = slot)) (onP la fun a ↦ ((0 : Int) ≤ Prod.snd s ∧
 Prod.snd s < (↑ln : Int)) ∧ ∃ i s_1, Ld Tryz.prog 123 w' (Addr.add a (Int.toNat (Prod.snd s) * 2)) (Value.agg #[Value.int IntKind.i64 i, Value.string s_1]) ∧ ∀ b w1, New w' (Obj.cells
 #[Value.int IntKind.i64 i, Value.string s_1] 123) b w1 → ∃ a n m w1_1, App Tryz.prog #[86, 86] 86 w1 (Value.slice (Prod.fst (Prod.fst s)) (Prod.fst (Prod.snd (Prod.fst s))) (Prod.snd
 (Prod.snd (Prod.fst s)))) (Value.slice (some (Addr.mk b 0 none)) 1 1) (Value.slice a n m) w1_1 ∧ inR IntKind.i64 (Prod.snd s + (1 : Int)) ∧ next ((a, n, m), Prod.snd s + (1 : Int)) w1_1) (inR
 IntKind.i64 (Prod.snd s + (1 : Int)) ∧ next ((Prod.fst (Prod.fst s), Prod.fst (Prod.snd (Prod.fst s)), Prod.snd (Prod.snd (Prod.fst s))), Prod.snd s + (1 : Int)) w')) (R (Ending.returned (Value.slice
 (Prod.fst (Prod.fst s)) (Prod.fst (Prod.snd (Prod.fst s))) (Prod.snd (Prod.snd (Prod.fst s))))) w')) ((none, 0, 0), (0 : Int)) w
theorem without.eq (la : Option Addr) (ln : Nat) (lc : Nat) (slot : Int) (w : World) (R : Ending → World → Prop) : bodyV Tryz.prog without.an Tryz.f75 [.slice la ln lc, .int .i64 slot] w R = without.vc la ln lc slot w R := by kernel_rfl
theorem without.ok (la : Option Addr) (ln : Nat) (lc : Nat) (slot : Int) (w : World) (R : Ending → World → Prop) (h : without.vc la ln lc slot w R) : Calls Tryz.prog 75 #[.slice la ln lc, .int .i64 slot] w R :=
  calls_of_bodyV noNum (an := without.an) (args := [.slice la ln lc, .int .i64 slot]) Tryz.func75 (by kernel_rfl) ((without.eq la ln lc slot w R).mpr h)

/-- incunable/incunableref11.with -/
def rwith.an : An := { wraps := [], loops := [(4, [(5, .inr 3), (6, .inr 0), (7, .inl .i64)])], joins := [(7, [(25, .inr 0)])], ranges := [] }
def rwith.vc (la : Option Addr) (ln : Nat) (lc : Nat) (r_Slot : Int) (r_S : ByteArray) (w : World) (R : Ending → World → Prop) : Prop := ∀ b w1, New w (Obj.cells #[Value.int IntKind.i64 r_Slot, Value.string r_S] 123) b w1 → LoopP (fun (s : (Option Addr × Nat × Nat) × Bool × Int) (w' : World) (next : (Option Addr × Nat × Nat) × Bool ×
 Int → World → Prop) ↦ br (decide (Prod.snd (Prod.snd s) < (↑ln : Int))) (JoinP (fun s_1 w' ↦ br s_1 (∃ i s_2, Ld Tryz.prog 123 w' (Addr.mk b 0 none) (Value.agg #[Value.int IntKind.i64 i,
 Value.string s_2]) ∧ ∀ b w1, New w' (Obj.cells #[Value.int IntKind.i64 i, Value.string s_2] 123) b w1 → ∃ a n m w1_1, App Tryz.prog #[86, 86] 86 w1 (Value.slice (Prod.fst (Prod.fst s))
 (Prod.fst (Prod.snd (Prod.fst s))) (Prod.snd (Prod.snd (Prod.fst s)))) (Value.slice (some (Addr.mk b 0 none)) 1 1) (Value.slice a n m) w1_1 ∧ onP la fun a_1 ↦ ((0 : Int) ≤ Prod.snd (Prod.snd s) ∧
 Prod.snd (Prod.snd s) < (↑ln : Int)) ∧ ∃ i s_3, Ld Tryz.prog 123 w1_1 (Addr.add a_1 (Int.toNat (Prod.snd (Prod.snd s)) * 2)) (Value.agg #[Value.int IntKind.i64 i, Value.string s_3]) ∧ ∀ b w1,
 New w1_1 (Obj.cells #[Value.int IntKind.i64 i, Value.string s_3] 123) b w1 → ∃ a_3 n_1 m_1 w1_2, App Tryz.prog #[86, 86] 86 w1 (Value.slice a n m) (Value.slice (some (Addr.mk b 0 none)) 1 1)
 (Value.slice a_3 n_1 m_1) w1_2 ∧ inR IntKind.i64 (Prod.snd (Prod.snd s) + (1 : Int)) ∧ next ((a_3, n_1, m_1), true, Prod.snd (Prod.snd s) + (1 : Int)) w1_2) (onP la fun a ↦ ((0 : Int) ≤ Prod.snd
 (Prod.snd s) ∧ Prod.snd (Prod.snd s) < (↑ln : Int)) ∧ ∃ i s_2, Ld Tryz.prog 123 w' (Addr.add a (Int.toNat (Prod.snd (Prod.snd s)) * 2)) (Value.agg #[Value.int IntKind.i64 i, Value.string
 s_2]) ∧ ∀ b w1, New w' (Obj.cells #[Value.int IntKind.i64 i, Value.string s_2] 123) b w1 → ∃ a n m w1_1, App Tryz.prog #[86, 86] 86 w1 (Value.slice (Prod.fst (Prod.fst s)) (Prod.fst (Prod.snd
 (Prod.fst s))) (Prod.snd (Prod.snd (Prod.fst s)))) (Value.slice (some (Addr.mk b 0 none)) 1 1) (Value.slice a n m) w1_1 ∧ inR IntKind.i64 (Prod.snd (Prod.snd s) + (1 : Int)) ∧ next ((a, n, m),
 Prod.fst (Prod.snd s), Prod.snd (Prod.snd s) + (1 : Int)) w1_1)) fun (J : Bool → World → Prop) ↦ br (!Prod.fst (Prod.snd s)) (onP la fun a ↦ ((0 : Int) ≤ Prod.snd (Prod.snd s) ∧ Prod.snd (Prod.snd s)
 < (↑ln : Int)) ∧ ∃ i, Ld Tryz.prog 3 (World.drew w') (Addr.add a (Int.toNat (Prod.snd (Prod.snd s)) * 2)) (Value.int IntKind.i64 i) ∧ ∃ i_1, Ld Tryz.prog 3 (World.drew w') (Addr.mk b
 0 none) (Value.int IntKind.i64 i_1) ∧ J (decide (i_1 < i)) (World.drew w')) (J false (World.drew w'))) (br (!Prod.fst (Prod.snd s)) (∃ i s_1, Ld Tryz.prog 123 w' (Addr.mk b 0 none) (Value.agg
 #[Value.int IntKind.i64 i, Value.string s_1]) ∧ ∀ b w1, New w' (Obj.cells #[Value.int IntKind.i64 i, Value.string s_1] 123) b w1 → ∃ a n m w1_1, App Tryz.prog #[86, 86] 86 w1 (Value.slice
 (Prod.fst (Prod.fst s)) (Prod.fst (Prod.snd (Prod.fst s))) (Prod.snd (Prod.snd (Prod.fst s)))) (Value.slice (some (Addr.mk b 0 none)) 1 1) (Value.slice a n m) w1_1 ∧ R (Ending.returned (Value.slice a
 n m)) w1_1) (R (Ending.returned (Value.slice (Prod.fst (Prod.fst s)) (Prod.fst (Prod.snd (Prod.fst s))) (Prod.snd (Prod.snd (Prod.fst s))))) w'))) ((none, 0, 0), false, (0 : Int)) w1
theorem rwith.eq (la : Option Addr) (ln : Nat) (lc : Nat) (r_Slot : Int) (r_S : ByteArray) (w : World) (R : Ending → World → Prop) : bodyV Tryz.prog rwith.an Tryz.f77 [.slice la ln lc, .agg #[.int .i64 r_Slot, .string r_S]] w R = rwith.vc la ln lc r_Slot r_S w R := by kernel_rfl
theorem rwith.ok (la : Option Addr) (ln : Nat) (lc : Nat) (r_Slot : Int) (r_S : ByteArray) (w : World) (R : Ending → World → Prop) (h : rwith.vc la ln lc r_Slot r_S w R) : Calls Tryz.prog 77 #[.slice la ln lc, .agg #[.int .i64 r_Slot, .string r_S]] w R :=
  calls_of_bodyV noNum (an := rwith.an) (args := [.slice la ln lc, .agg #[.int .i64 r_Slot, .string r_S]]) Tryz.func77 (by kernel_rfl) ((rwith.eq la ln lc r_Slot r_S w R).mpr h)

/-- incunable/incunableref11.Put -/
def rput.an : An := { wraps := [], loops := [], joins := [], ranges := [] }
def rput.vc (p_La : Option Addr) (p_Ln : Nat) (p_Lc : Nat) (p_Stamp : Int) (slot : Int) (s : ByteArray) (w : World) (R : Ending → World → Prop) : Prop := ∀ b w1, New w (Obj.cells #[Value.slice p_La p_Ln p_Lc, Value.int IntKind.i64 p_Stamp] 88) b w1 → ∀ b_1 w1_1, New w1 (Obj.cells #[Value.slice none 0 0, Value.int IntKind.i64 0] 88) b_1 w1_1 → br (decide
 (slot < (0 : Int))) (∃ a l c i, Ld Tryz.prog 88 w1_1 (Addr.mk b 0 none) (Value.agg #[Value.slice a l c, Value.int IntKind.i64 i]) ∧ ∃ w1, St Tryz.prog 88 w1_1 (Addr.mk b_1 0 none)
 (Value.agg #[Value.slice a l c, Value.int IntKind.i64 i]) w1 ∧ ∃ a l c i, Ld Tryz.prog 88 w1 (Addr.mk b_1 0 none) (Value.agg #[Value.slice a l c, Value.int IntKind.i64 i]) ∧ R
 (Ending.returned (Value.tuple #[Value.agg #[Value.slice a l c, Value.int IntKind.i64 i], Value.int IntKind.i64 110])) w1) (br (decide ((120 : Int) ≤ slot)) (∃ a l c i, Ld Tryz.prog 88 w1_1
 (Addr.mk b 0 none) (Value.agg #[Value.slice a l c, Value.int IntKind.i64 i]) ∧ ∃ w1, St Tryz.prog 88 w1_1 (Addr.mk b_1 0 none) (Value.agg #[Value.slice a l c, Value.int IntKind.i64 i]) w1 ∧ ∃
 a l c i, Ld Tryz.prog 88 w1 (Addr.mk b_1 0 none) (Value.agg #[Value.slice a l c, Value.int IntKind.i64 i]) ∧ R (Ending.returned (Value.tuple #[Value.agg #[Value.slice a l c, Value.int
 IntKind.i64 i], Value.int IntKind.i64 110])) w1) ((∃ a l c, Ld Tryz.prog 86 (World.drew w1_1) (Addr.mk b 0 none) (Value.slice a l c) ∧ ∃ i, Ld Tryz.prog 3 (World.drew w1_1) (Addr.mk
 b 1 none) (Value.int IntKind.i64 i) ∧ CallV Tryz.prog 75 [Value.slice a l c, Value.int IntKind.i64 slot] (World.drew w1_1) fun e w' ↦ ∃ a l c, e = Ending.returned (Value.slice a l c) ∧ Ld
 Tryz.prog 3 w' (Addr.mk b 1 none) (Value.int IntKind.i64 i) ∧ ∀ b_2 w1, New w' (Obj.cells #[Value.slice none 0 0, Value.int IntKind.i64 0] 88) b_2 w1 → Ld Tryz.prog 3 w1 (Addr.mk b 1
 none) (Value.int IntKind.i64 i) ∧ ∃ w1_2, St Tryz.prog 88 w1 (Addr.mk b_2 0 none) (Value.agg #[Value.slice a l c, Value.int IntKind.i64 i]) w1_2 ∧ ∃ a l c i, Ld Tryz.prog 88 w1_2
 (Addr.mk b_2 0 none) (Value.agg #[Value.slice a l c, Value.int IntKind.i64 i]) ∧ CallV Tryz.prog 76 [Value.agg #[Value.slice a l c, Value.int IntKind.i64 i]] w1_2 fun e w' ↦ ∃ i, e =
 Ending.returned (Value.int IntKind.i64 i) ∧ br (decide (i < (↑(ByteArray.size s) : Int))) (∃ a l c i, Ld Tryz.prog 88 w' (Addr.mk b 0 none) (Value.agg #[Value.slice a l c, Value.int
 IntKind.i64 i]) ∧ ∃ w1, St Tryz.prog 88 w' (Addr.mk b_1 0 none) (Value.agg #[Value.slice a l c, Value.int IntKind.i64 i]) w1 ∧ ∃ a l c i, Ld Tryz.prog 88 w1 (Addr.mk b_1 0 none)
 (Value.agg #[Value.slice a l c, Value.int IntKind.i64 i]) ∧ R (Ending.returned (Value.tuple #[Value.agg #[Value.slice a l c, Value.int IntKind.i64 i], Value.int IntKind.i64 111])) w1) (∃ a l c, Ld
 Tryz.prog 86 w' (Addr.mk b_2 0 none) (Value.slice a l c) ∧ CallV Tryz.prog 77 [Value.slice a l c, Value.agg #[Value.int IntKind.i64 slot, Value.string s]] w' fun e w' ↦ ∃ a l c, e =
 Ending.returned (Value.slice a l c) ∧ ∃ w1, St Tryz.prog 86 w' (Addr.mk b_2 0 none) (Value.slice a l c) w1 ∧ ∃ a l c i, Ld Tryz.prog 88 w1 (Addr.mk b_2 0 none) (Value.agg
 #[Value.slice a l c, Value.int IntKind.i64 i]) ∧ ∃ w1_3, St Tryz.prog 88 w1 (Addr.mk b_1 0 none) (Value.agg #[Value.slice a l c, Value.int IntKind.i64 i]) w1_3 ∧ ∃ a l c i, Ld
 Tryz.prog 88 w1_3 (Addr.mk b_1 0 none) (Value.agg #[Value.slice a l c, Value.int IntKind.i64 i]) ∧ R (Ending.returned (Value.tuple #[Value.agg #[Value.slice a l c, Value.int IntKind.i64 i],
 Value.int IntKind.i64 0])) w1_3)) ∧ ∃ a l c, Ld Tryz.prog 86 (World.drew w1_1) (Addr.mk b 0 none) (Value.slice a l c) ∧ ∃ i, Ld Tryz.prog 3 (World.drew w1_1) (Addr.mk b 1 none)
 (Value.int IntKind.i64 i) ∧ ∀ b_2 w1, New (World.drew w1_1) (Obj.cells #[Value.slice none 0 0, Value.int IntKind.i64 0] 88) b_2 w1 → Ld Tryz.prog 3 w1 (Addr.mk b 1 none) (Value.int
 IntKind.i64 i) ∧ Ld Tryz.prog 86 w1 (Addr.mk b 0 none) (Value.slice a l c) ∧ CallV Tryz.prog 75 [Value.slice a l c, Value.int IntKind.i64 slot] w1 fun e w' ↦ ∃ a l c, e =
 Ending.returned (Value.slice a l c) ∧ Ld Tryz.prog 3 w' (Addr.mk b 1 none) (Value.int IntKind.i64 i) ∧ ∃ w1, St Tryz.prog 88 w' (Addr.mk b_2 0 none) (Value.agg #[Value.slice a l c,
 Value.int IntKind.i64 i]) w1 ∧ ∃ a l c i, Ld Tryz.prog 88 w1 (Addr.mk b_2 0 none) (Value.agg #[Value.slice a l c, Value.int IntKind.i64 i]) ∧ CallV Tryz.prog 76 [Value.agg
 #[Value.slice a l c, Value.int IntKind.i64 i]] w1 fun e w' ↦ ∃ i, e = Ending.returned (Value.int IntKind.i64 i) ∧ br (decide (i < (↑(ByteArray.size s) : Int))) (∃ a l c i, Ld Tryz.prog 88 w'
 (Addr.mk b 0 none) (Value.agg #[Value.slice a l c, Value.int IntKind.i64 i]) ∧ ∃ w1, St Tryz.prog 88 w' (Addr.mk b_1 0 none) (Value.agg #[Value.slice a l c, Value.int IntKind.i64 i]) w1 ∧ ∃ a
 l c i, Ld Tryz.prog 88 w1 (Addr.mk b_1 0 none) (Value.agg #[Value.slice a l c, Value.int IntKind.i64 i]) ∧ R (Ending.returned (Value.tuple #[Value.agg #[Value.slice a l c, Value.int
 IntKind.i64 i], Value.int IntKind.i64 111])) w1) (∃ a l c, Ld Tryz.prog 86 w' (Addr.mk b_2 0 none) (Value.slice a l c) ∧ CallV Tryz.prog 77 [Value.slice a l c, Value.agg #[Value.int
 IntKind.i64 slot, Value.string s]] w' fun e w' ↦ ∃ a l c, e = Ending.returned (Value.slice a l c) ∧ ∃ w1, St Tryz.prog 86 w' (Addr.mk b_2 0 none) (Value.slice a l c) w1 ∧ ∃ a l c i, Ld
 Tryz.prog 88 w1 (Addr.mk b_2 0 none) (Value.agg #[Value.slice a l c, Value.int IntKind.i64 i]) ∧ ∃ w1_2, St Tryz.prog 88 w1 (Addr.mk b_1 0 none) (Value.agg #[Value.slice a l c,
 Value.int IntKind.i64 i]) w1_2 ∧ ∃ a l c i, Ld Tryz.prog 88 w1_2 (Addr.mk b_1 0 none) (Value.agg #[Value.slice a l c, Value.int IntKind.i64 i]) ∧ R (Ending.returned (Value.tuple #[Value.agg
 #[Value.slice a l c, Value.int IntKind.i64 i], Value.int IntKind.i64 0])) w1_2)))
theorem rput.eq (p_La : Option Addr) (p_Ln : Nat) (p_Lc : Nat) (p_Stamp : Int) (slot : Int) (s : ByteArray) (w : World) (R : Ending → World → Prop) : bodyV Tryz.prog rput.an Tryz.f46 [.agg #[.slice p_La p_Ln p_Lc, .int .i64 p_Stamp], .int .i64 slot, .string s] w R = rput.vc p_La p_Ln p_Lc p_Stamp slot s w R := by kernel_rfl
theorem rput.ok (p_La : Option Addr) (p_Ln : Nat) (p_Lc : Nat) (p_Stamp : Int) (slot : Int) (s : ByteArray) (w : World) (R : Ending → World → Prop) (h : rput.vc p_La p_Ln p_Lc p_Stamp slot s w R) : Calls Tryz.prog 46 #[.agg #[.slice p_La p_Ln p_Lc, .int .i64 p_Stamp], .int .i64 slot, .string s] w R :=
  calls_of_bodyV noNum (an := rput.an) (args := [.agg #[.slice p_La p_Ln p_Lc, .int .i64 p_Stamp], .int .i64 slot, .string s]) Tryz.func46 (by kernel_rfl) ((rput.eq p_La p_Ln p_Lc p_Stamp slot s w R).mpr h)

/-- incunable/incunableref11.Insert -/
def rinsert.an : An := { wraps := [], loops := [(2, [(7, .inl .i64)])], joins := [], ranges := [] }
def rinsert.vc (p_La : Option Addr) (p_Ln : Nat) (p_Lc : Nat) (p_Stamp : Int) (s : ByteArray) (w : World) (R : Ending → World → Prop) : Prop := ∀ b w1, New w (Obj.cells #[Value.slice p_La p_Ln p_Lc, Value.int IntKind.i64 p_Stamp] 88) b w1 → ∀ b_1 w1_1, New w1 (Obj.cells #[Value.slice none 0 0, Value.int IntKind.i64 0] 88) b_1 w1_1 → LoopP (fun
 (s_1 : Int) (w' : World) (next : Int → World → Prop) ↦ br (decide (s_1 < (120 : Int))) (∃ a l c i, Ld Tryz.prog 88 w' (Addr.mk b 0 none) (Value.agg #[Value.slice a l c, Value.int IntKind.i64
 i]) ∧ CallV Tryz.prog 90 [Value.agg #[Value.slice a l c, Value.int IntKind.i64 i], Value.int IntKind.i64 s_1] w' fun e w' ↦ ∃ s_2 b_2, e = Ending.returned (Value.tuple #[Value.string s_2,
 Value.bool b_2]) ∧ br (!b_2) (∃ a l c i, Ld Tryz.prog 88 w' (Addr.mk b 0 none) (Value.agg #[Value.slice a l c, Value.int IntKind.i64 i]) ∧ CallV Tryz.prog 46 [Value.agg #[Value.slice
 a l c, Value.int IntKind.i64 i], Value.int IntKind.i64 s_1, Value.string s] w' fun e w' ↦ ∃ a l c i i_1, e = Ending.returned (Value.tuple #[Value.agg #[Value.slice a l c, Value.int IntKind.i64 i],
 Value.int IntKind.i64 i_1]) ∧ ∀ b_3 w1, New w' (Obj.cells #[Value.slice none 0 0, Value.int IntKind.i64 0] 88) b_3 w1 → ∃ w1_2, St Tryz.prog 88 w1 (Addr.mk b_3 0 none) (Value.agg
 #[Value.slice a l c, Value.int IntKind.i64 i]) w1_2 ∧ br (!decide (i_1 = (0 : Int))) (∃ a l c i, Ld Tryz.prog 88 w1_2 (Addr.mk b 0 none) (Value.agg #[Value.slice a l c, Value.int IntKind.i64
 i]) ∧ ∃ w1, St Tryz.prog 88 w1_2 (Addr.mk b_1 0 none) (Value.agg #[Value.slice a l c, Value.int IntKind.i64 i]) w1 ∧ ∃ a l c i, Ld Tryz.prog 88 w1 (Addr.mk b_1 0 none) (Value.agg
 #[Value.slice a l c, Value.int IntKind.i64 i]) ∧ R (Ending.returned (Value.tuple #[Value.agg #[Value.slice a l c, Value.int IntKind.i64 i], Value.int IntKind.i64 0, Value.int IntKind.i64 i_1])) w1) (∃
 a l c i, Ld Tryz.prog 88 w1_2 (Addr.mk b_3 0 none) (Value.agg #[Value.slice a l c, Value.int IntKind.i64 i]) ∧ ∃ w1, St Tryz.prog 88 w1_2 (Addr.mk b_1 0 none) (Value.agg
 #[Value.slice a l c, Value.int IntKind.i64 i]) w1 ∧ ∃ a l c i, Ld Tryz.prog 88 w1 (Addr.mk b_1 0 none) (Value.agg #[Value.slice a l c, Value.int IntKind.i64 i]) ∧ R (Ending.returned
 (Value.tuple #[Value.agg #[Value.slice a l c, Value.int IntKind.i64 i], Value.int IntKind.i64 s_1, Value.int IntKind.i64 0])) w1)) (inR IntKind.i64 (s_1 + (1 : Int)) ∧ next (s_1 + (1 : Int)) w')) (∃ a
 l c i, Ld Tryz.prog 88 w' (Addr.mk b 0 none) (Value.agg #[Value.slice a l c, Value.int IntKind.i64 i]) ∧ ∃ w1, St Tryz.prog 88 w' (Addr.mk b_1 0 none) (Value.agg #[Value.slice a l c,
 Value.int IntKind.i64 i]) w1 ∧ ∃ a l c i, Ld Tryz.prog 88 w1 (Addr.mk b_1 0 none) (Value.agg #[Value.slice a l c, Value.int IntKind.i64 i]) ∧ R (Ending.returned (Value.tuple #[Value.agg
 #[Value.slice a l c, Value.int IntKind.i64 i], Value.int IntKind.i64 0, Value.int IntKind.i64 111])) w1)) (0 : Int) w1_1
theorem rinsert.eq (p_La : Option Addr) (p_Ln : Nat) (p_Lc : Nat) (p_Stamp : Int) (s : ByteArray) (w : World) (R : Ending → World → Prop) : bodyV Tryz.prog rinsert.an Tryz.f73 [.agg #[.slice p_La p_Ln p_Lc, .int .i64 p_Stamp], .string s] w R = rinsert.vc p_La p_Ln p_Lc p_Stamp s w R := by kernel_rfl
theorem rinsert.ok (p_La : Option Addr) (p_Ln : Nat) (p_Lc : Nat) (p_Stamp : Int) (s : ByteArray) (w : World) (R : Ending → World → Prop) (h : rinsert.vc p_La p_Ln p_Lc p_Stamp s w R) : Calls Tryz.prog 73 #[.agg #[.slice p_La p_Ln p_Lc, .int .i64 p_Stamp], .string s] w R :=
  calls_of_bodyV noNum (an := rinsert.an) (args := [.agg #[.slice p_La p_Ln p_Lc, .int .i64 p_Stamp], .string s]) Tryz.func73 (by kernel_rfl) ((rinsert.eq p_La p_Ln p_Lc p_Stamp s w R).mpr h)

/-- incunable/incunableref11.Delete -/
def rdelete.an : An := { wraps := [], loops := [], joins := [], ranges := [] }
def rdelete.vc (p_La : Option Addr) (p_Ln : Nat) (p_Lc : Nat) (p_Stamp : Int) (slot : Int) (w : World) (R : Ending → World → Prop) : Prop := ∀ b w1, New w (Obj.cells #[Value.slice p_La p_Ln p_Lc, Value.int IntKind.i64 p_Stamp] 88) b w1 → ∀ b_1 w1_1, New w1 (Obj.cells #[Value.slice none 0 0, Value.int IntKind.i64 0] 88) b_1 w1_1 → ∃ a l c i,
 Ld Tryz.prog 88 w1_1 (Addr.mk b 0 none) (Value.agg #[Value.slice a l c, Value.int IntKind.i64 i]) ∧ CallV Tryz.prog 90 [Value.agg #[Value.slice a l c, Value.int IntKind.i64 i],
 Value.int IntKind.i64 slot] w1_1 fun e w' ↦ ∃ s b_2, e = Ending.returned (Value.tuple #[Value.string s, Value.bool b_2]) ∧ br (!b_2) (∃ a l c i, Ld Tryz.prog 88 w' (Addr.mk b 0 none)
 (Value.agg #[Value.slice a l c, Value.int IntKind.i64 i]) ∧ ∃ w1, St Tryz.prog 88 w' (Addr.mk b_1 0 none) (Value.agg #[Value.slice a l c, Value.int IntKind.i64 i]) w1 ∧ ∃ a l c i, Ld
 Tryz.prog 88 w1 (Addr.mk b_1 0 none) (Value.agg #[Value.slice a l c, Value.int IntKind.i64 i]) ∧ R (Ending.returned (Value.tuple #[Value.agg #[Value.slice a l c, Value.int IntKind.i64 i],
 Value.int IntKind.i64 110])) w1) (∃ a l c, Ld Tryz.prog 86 w' (Addr.mk b 0 none) (Value.slice a l c) ∧ CallV Tryz.prog 75 [Value.slice a l c, Value.int IntKind.i64 slot] w' fun e w'
 ↦ ∃ a l c, e = Ending.returned (Value.slice a l c) ∧ ∃ w1, St Tryz.prog 86 w' (Addr.mk b 0 none) (Value.slice a l c) w1 ∧ ∃ a l c i, Ld Tryz.prog 88 w1 (Addr.mk b 0 none) (Value.agg
 #[Value.slice a l c, Value.int IntKind.i64 i]) ∧ ∃ w1_2, St Tryz.prog 88 w1 (Addr.mk b_1 0 none) (Value.agg #[Value.slice a l c, Value.int IntKind.i64 i]) w1_2 ∧ ∃ a l c i, Ld
 Tryz.prog 88 w1_2 (Addr.mk b_1 0 none) (Value.agg #[Value.slice a l c, Value.int IntKind.i64 i]) ∧ R (Ending.returned (Value.tuple #[Value.agg #[Value.slice a l c, Value.int IntKind.i64 i],
 Value.int IntKind.i64 0])) w1_2)
theorem rdelete.eq (p_La : Option Addr) (p_Ln : Nat) (p_Lc : Nat) (p_Stamp : Int) (slot : Int) (w : World) (R : Ending → World → Prop) : bodyV Tryz.prog rdelete.an Tryz.f74 [.agg #[.slice p_La p_Ln p_Lc, .int .i64 p_Stamp], .int .i64 slot] w R = rdelete.vc p_La p_Ln p_Lc p_Stamp slot w R := by kernel_rfl
theorem rdelete.ok (p_La : Option Addr) (p_Ln : Nat) (p_Lc : Nat) (p_Stamp : Int) (slot : Int) (w : World) (R : Ending → World → Prop) (h : rdelete.vc p_La p_Ln p_Lc p_Stamp slot w R) : Calls Tryz.prog 74 #[.agg #[.slice p_La p_Ln p_Lc, .int .i64 p_Stamp], .int .i64 slot] w R :=
  calls_of_bodyV noNum (an := rdelete.an) (args := [.agg #[.slice p_La p_Ln p_Lc, .int .i64 p_Stamp], .int .i64 slot]) Tryz.func74 (by kernel_rfl) ((rdelete.eq p_La p_Ln p_Lc p_Stamp slot w R).mpr h)

/-- incunable/incunableref11.Do -/
def rdo.an : An := { wraps := [], loops := [], joins := [], ranges := [] }
def rdo.vc (p_La : Option Addr) (p_Ln : Nat) (p_Lc : Nat) (p_Stamp : Int) (o_Kind : Int) (o_Slot : Int) (o_N : Int) (o_S : ByteArray) (w : World) (R : Ending → World → Prop) : Prop := ∀ b w1, New w (Obj.cells #[Value.slice p_La p_Ln p_Lc, Value.int IntKind.i64 p_Stamp] 88) b w1 → ∀ b_1 w1_1, New w1 (Obj.cells #[Value.int IntKind.i64 o_Kind, Value.int IntKind.i64 o_Slot, Value.int
 IntKind.i64 o_N, Value.string o_S] 47) b_1 w1_1 → ∀ b_2 w1, New w1_1 (Obj.cells #[Value.slice none 0 0, Value.int IntKind.i64 0] 88) b_2 w1 → ∃ i, Ld Tryz.prog 3 w1 (Addr.mk b_1 0 none)
 (Value.int IntKind.i64 i) ∧ br (decide (i = (0 : Int))) (∃ a l c i, Ld Tryz.prog 88 w1 (Addr.mk b 0 none) (Value.agg #[Value.slice a l c, Value.int IntKind.i64 i]) ∧ ∃ s, Ld
 Tryz.prog 9 w1 (Addr.mk b_1 3 none) (Value.string s) ∧ CallV Tryz.prog 73 [Value.agg #[Value.slice a l c, Value.int IntKind.i64 i], Value.string s] w1 fun e w' ↦ ∃ a l c i i_1 i_2, e
 = Ending.returned (Value.tuple #[Value.agg #[Value.slice a l c, Value.int IntKind.i64 i], Value.int IntKind.i64 i_1, Value.int IntKind.i64 i_2]) ∧ ∃ w1, St Tryz.prog 88 w' (Addr.mk b_2 0
 none) (Value.agg #[Value.slice a l c, Value.int IntKind.i64 i]) w1 ∧ ∃ a l c i, Ld Tryz.prog 88 w1 (Addr.mk b_2 0 none) (Value.agg #[Value.slice a l c, Value.int IntKind.i64 i]) ∧ R
 (Ending.returned (Value.tuple #[Value.agg #[Value.slice a l c, Value.int IntKind.i64 i], Value.int IntKind.i64 i_1, Value.int IntKind.i64 i_2])) w1) (br (decide (i = (1 : Int))) (∃ a l c i, Ld
 Tryz.prog 88 w1 (Addr.mk b 0 none) (Value.agg #[Value.slice a l c, Value.int IntKind.i64 i]) ∧ ∃ i_1, Ld Tryz.prog 3 w1 (Addr.mk b_1 1 none) (Value.int IntKind.i64 i_1) ∧ ∃ s, Ld
 Tryz.prog 9 w1 (Addr.mk b_1 3 none) (Value.string s) ∧ CallV Tryz.prog 46 [Value.agg #[Value.slice a l c, Value.int IntKind.i64 i], Value.int IntKind.i64 i_1, Value.string s] w1 fun
 e w' ↦ ∃ a l c i i_2, e = Ending.returned (Value.tuple #[Value.agg #[Value.slice a l c, Value.int IntKind.i64 i], Value.int IntKind.i64 i_2]) ∧ ∀ b w1, New w' (Obj.cells #[Value.slice none 0 0,
 Value.int IntKind.i64 0] 88) b w1 → ∃ w1_2, St Tryz.prog 88 w1 (Addr.mk b 0 none) (Value.agg #[Value.slice a l c, Value.int IntKind.i64 i]) w1_2 ∧ ∃ a l c i, Ld Tryz.prog 88 w1_2
 (Addr.mk b 0 none) (Value.agg #[Value.slice a l c, Value.int IntKind.i64 i]) ∧ ∃ w1, St Tryz.prog 88 w1_2 (Addr.mk b_2 0 none) (Value.agg #[Value.slice a l c, Value.int IntKind.i64 i]) w1 ∧ ∃
 a l c i, Ld Tryz.prog 88 w1 (Addr.mk b_2 0 none) (Value.agg #[Value.slice a l c, Value.int IntKind.i64 i]) ∧ R (Ending.returned (Value.tuple #[Value.agg #[Value.slice a l c, Value.int
 IntKind.i64 i], Value.int IntKind.i64 0, Value.int IntKind.i64 i_2])) w1) (br (decide (i = (2 : Int))) (∃ a l c i, Ld Tryz.prog 88 w1 (Addr.mk b 0 none) (Value.agg #[Value.slice a l c,
 Value.int IntKind.i64 i]) ∧ ∃ i_1, Ld Tryz.prog 3 w1 (Addr.mk b_1 1 none) (Value.int IntKind.i64 i_1) ∧ CallV Tryz.prog 74 [Value.agg #[Value.slice a l c, Value.int IntKind.i64 i],
 Value.int IntKind.i64 i_1] w1 fun e w' ↦ ∃ a l c i i_2, e = Ending.returned (Value.tuple #[Value.agg #[Value.slice a l c, Value.int IntKind.i64 i], Value.int IntKind.i64 i_2]) ∧ ∀ b w1, New w'
 (Obj.cells #[Value.slice none 0 0, Value.int IntKind.i64 0] 88) b w1 → ∃ w1_2, St Tryz.prog 88 w1 (Addr.mk b 0 none) (Value.agg #[Value.slice a l c, Value.int IntKind.i64 i]) w1_2 ∧ ∃ a l c
 i, Ld Tryz.prog 88 w1_2 (Addr.mk b 0 none) (Value.agg #[Value.slice a l c, Value.int IntKind.i64 i]) ∧ ∃ w1, St Tryz.prog 88 w1_2 (Addr.mk b_2 0 none) (Value.agg #[Value.slice a l c,
 Value.int IntKind.i64 i]) w1 ∧ ∃ a l c i, Ld Tryz.prog 88 w1 (Addr.mk b_2 0 none) (Value.agg #[Value.slice a l c, Value.int IntKind.i64 i]) ∧ R (Ending.returned (Value.tuple #[Value.agg
 #[Value.slice a l c, Value.int IntKind.i64 i], Value.int IntKind.i64 0, Value.int IntKind.i64 i_2])) w1) (br (decide (i = (3 : Int))) (∃ i, Ld Tryz.prog 3 w1 (Addr.mk b_1 2 none) (Value.int
 IntKind.i64 i) ∧ br (decide (i < (0 : Int))) (∃ a l c i, Ld Tryz.prog 88 w1 (Addr.mk b 0 none) (Value.agg #[Value.slice a l c, Value.int IntKind.i64 i]) ∧ ∃ w1_2, St Tryz.prog 88 w1
 (Addr.mk b_2 0 none) (Value.agg #[Value.slice a l c, Value.int IntKind.i64 i]) w1_2 ∧ ∃ a l c i, Ld Tryz.prog 88 w1_2 (Addr.mk b_2 0 none) (Value.agg #[Value.slice a l c, Value.int
 IntKind.i64 i]) ∧ R (Ending.returned (Value.tuple #[Value.agg #[Value.slice a l c, Value.int IntKind.i64 i], Value.int IntKind.i64 0, Value.int IntKind.i64 1])) w1_2) (∃ i, Ld Tryz.prog 3 w1
 (Addr.mk b_1 2 none) (Value.int IntKind.i64 i) ∧ br (decide ((4611686018427387904 : Int) < i)) (∃ a l c i, Ld Tryz.prog 88 w1 (Addr.mk b 0 none) (Value.agg #[Value.slice a l c, Value.int
 IntKind.i64 i]) ∧ ∃ w1_2, St Tryz.prog 88 w1 (Addr.mk b_2 0 none) (Value.agg #[Value.slice a l c, Value.int IntKind.i64 i]) w1_2 ∧ ∃ a l c i, Ld Tryz.prog 88 w1_2 (Addr.mk b_2 0
 none) (Value.agg #[Value.slice a l c, Value.int IntKind.i64 i]) ∧ R (Ending.returned (Value.tuple #[Value.agg #[Value.slice a l c, Value.int IntKind.i64 i], Value.int IntKind.i64 0, Value.int
 IntKind.i64 1])) w1_2) (∃ i, Ld Tryz.prog 3 w1 (Addr.mk b_1 2 none) (Value.int IntKind.i64 i) ∧ ∃ w1_2, St Tryz.prog 3 w1 (Addr.mk b 1 none) (Value.int IntKind.i64 i) w1_2 ∧ ∃ a l c
 i, Ld Tryz.prog 88 w1_2 (Addr.mk b 0 none) (Value.agg #[Value.slice a l c, Value.int IntKind.i64 i]) ∧ ∃ w1, St Tryz.prog 88 w1_2 (Addr.mk b_2 0 none) (Value.agg #[Value.slice a l c,
 Value.int IntKind.i64 i]) w1 ∧ ∃ a l c i, Ld Tryz.prog 88 w1 (Addr.mk b_2 0 none) (Value.agg #[Value.slice a l c, Value.int IntKind.i64 i]) ∧ R (Ending.returned (Value.tuple #[Value.agg
 #[Value.slice a l c, Value.int IntKind.i64 i], Value.int IntKind.i64 0, Value.int IntKind.i64 0])) w1))) (∃ a l c i, Ld Tryz.prog 88 w1 (Addr.mk b 0 none) (Value.agg #[Value.slice a l c,
 Value.int IntKind.i64 i]) ∧ ∃ w1_2, St Tryz.prog 88 w1 (Addr.mk b_2 0 none) (Value.agg #[Value.slice a l c, Value.int IntKind.i64 i]) w1_2 ∧ ∃ a l c i, Ld Tryz.prog 88 w1_2 (Addr.mk
 b_2 0 none) (Value.agg #[Value.slice a l c, Value.int IntKind.i64 i]) ∧ R (Ending.returned (Value.tuple #[Value.agg #[Value.slice a l c, Value.int IntKind.i64 i], Value.int IntKind.i64 0, Value.int
 IntKind.i64 0])) w1_2))))
theorem rdo.eq (p_La : Option Addr) (p_Ln : Nat) (p_Lc : Nat) (p_Stamp : Int) (o_Kind : Int) (o_Slot : Int) (o_N : Int) (o_S : ByteArray) (w : World) (R : Ending → World → Prop) : bodyV Tryz.prog rdo.an Tryz.f44 [.agg #[.slice p_La p_Ln p_Lc, .int .i64 p_Stamp], .agg #[.int .i64 o_Kind, .int .i64 o_Slot, .int .i64 o_N, .string o_S]] w R = rdo.vc p_La p_Ln p_Lc p_Stamp o_Kind o_Slot o_N o_S w R := by kernel_rfl
theorem rdo.ok (p_La : Option Addr) (p_Ln : Nat) (p_Lc : Nat) (p_Stamp : Int) (o_Kind : Int) (o_Slot : Int) (o_N : Int) (o_S : ByteArray) (w : World) (R : Ending → World → Prop) (h : rdo.vc p_La p_Ln p_Lc p_Stamp o_Kind o_Slot o_N o_S w R) : Calls Tryz.prog 44 #[.agg #[.slice p_La p_Ln p_Lc, .int .i64 p_Stamp], .agg #[.int .i64 o_Kind, .int .i64 o_Slot, .int .i64 o_N, .string o_S]] w R :=
  calls_of_bodyV noNum (an := rdo.an) (args := [.agg #[.slice p_La p_Ln p_Lc, .int .i64 p_Stamp], .agg #[.int .i64 o_Kind, .int .i64 o_Slot, .int .i64 o_N, .string o_S]]) Tryz.func44 (by kernel_rfl) ((rdo.eq p_La p_Ln p_Lc p_Stamp o_Kind o_Slot o_N o_S w R).mpr h)

/-- incunable/frames.Open -/
def fopen.an : An := { wraps := [], loops := [], joins := [], ranges := [] }
def fopen.vc (d : Option Addr) (name : ByteArray) (many : Int) (kv : Option Addr) (w : World) (R : Ending → World → Prop) : Prop := br (decide (many < (4 : Int))) (R (Ending.returned (Value.tuple #[Value.pointer none, Value.int IntKind.i64 1])) w) (br (decide ((64 : Int) < many)) (R (Ending.returned (Value.tuple #[Value.pointer
 none, Value.int IntKind.i64 1])) w) (∃ b, Eqv Tryz.prog BinOp.eql 67 (Operand.tmp 18) (Operand.const Value.nilFunc) w (Value.func (Fn.func 34) #[] #[Value.pointer kv]) Value.nilFunc b ∧ br b
 (R (Ending.returned (Value.tuple #[Value.pointer none, Value.int IntKind.i64 1])) w) (CallV Tryz.prog 18 [Value.pointer d, Value.string name] w fun e w' ↦ ∃ i, e = Ending.returned (Value.int
 IntKind.i64 i) ∧ br (decide (i < (0 : Int))) (CallV Tryz.prog 62 [Value.pointer d, Value.string name] w' fun e w' ↦ ∃ i, e = Ending.returned (Value.int IntKind.i64 i) ∧ br (!decide (i = (0 :
 Int))) (R (Ending.returned (Value.tuple #[Value.pointer none, Value.int IntKind.i64 i])) w') (CallV Tryz.prog 18 [Value.pointer d, Value.string name] w' fun e w' ↦ ∃ i, e = Ending.returned
 (Value.int IntKind.i64 i) ∧ inR IntKind.i64 (i + (8 : Int)) ∧ inR IntKind.i64 (i + (8 : Int) - (1 : Int)) ∧ (8 : Int) ≠ (0 : Int) ∧ inR IntKind.i64 (Int.tdiv (i + (8 : Int) - (1 : Int)) (8 : Int)) ∧ ∀
 b w1, New w' (Obj.cells #[Value.pointer d, Value.string name, Value.int IntKind.i64 many, Value.func (Fn.func 34) #[] #[Value.pointer kv], Value.slice none 0 0, Value.int IntKind.i64 0, Value.int
 IntKind.i64 (Int.tdiv (i + (8 : Int) - (1 : Int)) (8 : Int))] 70) b w1 → R (Ending.returned (Value.tuple #[Value.pointer (some (Addr.mk b 0 none)), Value.int IntKind.i64 0])) w1)) (CallV
 Tryz.prog 18 [Value.pointer d, Value.string name] w' fun e w' ↦ ∃ i, e = Ending.returned (Value.int IntKind.i64 i) ∧ inR IntKind.i64 (i + (8 : Int)) ∧ inR IntKind.i64 (i + (8 : Int) - (1 :
 Int)) ∧ (8 : Int) ≠ (0 : Int) ∧ inR IntKind.i64 (Int.tdiv (i + (8 : Int) - (1 : Int)) (8 : Int)) ∧ ∀ b w1, New w' (Obj.cells #[Value.pointer d, Value.string name, Value.int IntKind.i64 many,
 Value.func (Fn.func 34) #[] #[Value.pointer kv], Value.slice none 0 0, Value.int IntKind.i64 0, Value.int IntKind.i64 (Int.tdiv (i + (8 : Int) - (1 : Int)) (8 : Int))] 70) b w1 → R (Ending.returned
 (Value.tuple #[Value.pointer (some (Addr.mk b 0 none)), Value.int IntKind.i64 0])) w1))))
theorem fopen.eq (d : Option Addr) (name : ByteArray) (many : Int) (kv : Option Addr) (w : World) (R : Ending → World → Prop) : bodyV Tryz.prog fopen.an Tryz.f33 [.pointer d, .string name, .int .i64 many, (.func (.func 34) #[] #[.pointer kv])] w R = fopen.vc d name many kv w R := by kernel_rfl
theorem fopen.ok (d : Option Addr) (name : ByteArray) (many : Int) (kv : Option Addr) (w : World) (R : Ending → World → Prop) (h : fopen.vc d name many kv w R) : Calls Tryz.prog 33 #[.pointer d, .string name, .int .i64 many, (.func (.func 34) #[] #[.pointer kv])] w R :=
  calls_of_bodyV noNum (an := fopen.an) (args := [.pointer d, .string name, .int .i64 many, (.func (.func 34) #[] #[.pointer kv])]) Tryz.func33 (by kernel_rfl) ((fopen.eq d name many kv w R).mpr h)

/-- (*incunable/frames.Pool).find -/
def ffind.an : An := { wraps := [], loops := [(2, [(12, .inl .i64)])], joins := [], ranges := [] }
def ffind.vc (p : Option Addr) (n : Int) (w : World) (R : Ending → World → Prop) : Prop := onP p fun a ↦ ∃ a_1 l c, Ld Tryz.prog 68 w (Addr.add a 4) (Value.slice a_1 l c) ∧ LoopP (fun (s : Int) (w' : World) (next : Int → World → Prop) ↦ br (decide (s < (↑l : Int))) (onP a_1 fun a ↦
 ((0 : Int) ≤ s ∧ s < (↑l : Int)) ∧ ∃ p, Ld Tryz.prog 61 w' (Addr.add a (Int.toNat s * 1)) (Value.pointer p) ∧ onP p fun a ↦ ∃ i, Ld Tryz.prog 3 w' a (Value.int IntKind.i64 i) ∧ br
 (decide (i = n)) (R (Ending.returned (Value.pointer p)) w') (inR IntKind.i64 (s + (1 : Int)) ∧ next (s + (1 : Int)) w')) (R (Ending.returned (Value.pointer none)) w')) (0 : Int) w
theorem ffind.eq (p : Option Addr) (n : Int) (w : World) (R : Ending → World → Prop) : bodyV Tryz.prog ffind.an Tryz.f26 [.pointer p, .int .i64 n] w R = ffind.vc p n w R := by kernel_rfl
theorem ffind.ok (p : Option Addr) (n : Int) (w : World) (R : Ending → World → Prop) (h : ffind.vc p n w R) : Calls Tryz.prog 26 #[.pointer p, .int .i64 n] w R :=
  calls_of_bodyV noNum (an := ffind.an) (args := [.pointer p, .int .i64 n]) Tryz.func26 (by kernel_rfl) ((ffind.eq p n w R).mpr h)

/-- (*incunable/frames.Pool).numbers -/
def numbers.an : An := { wraps := [], loops := [(3, [(5, .inr 3), (13, .inl .i64)])], joins := [], ranges := [] }
def numbers.vc (p : Option Addr) (is_ : Value) (w : World) (R : Ending → World → Prop) : Prop := onP p fun a ↦ ∃ a_1 l c, Ld Tryz.prog 68 w (Addr.add a 4) (Value.slice a_1 l c) ∧ LoopP (fun (s : (Option Addr × Nat × Nat) × Int) (w' : World) (next : (Option Addr × Nat × Nat) × Int → World
 → Prop) ↦ br (decide (Prod.snd s < (↑l : Int))) (onP a_1 fun a ↦ ((0 : Int) ≤ Prod.snd s ∧ Prod.snd s < (↑l : Int)) ∧ ∃ p, Ld Tryz.prog 61 w' (Addr.add a (Int.toNat (Prod.snd s) * 1))
 (Value.pointer p) ∧ CallX Tryz.prog is_ [Value.pointer p] w' fun e w' ↦ ∃ b, e = Ending.returned (Value.bool b) ∧ br b (onP p fun a ↦ ∃ i, Ld Tryz.prog 3 w' a (Value.int IntKind.i64
 i) ∧ ∀ b w1, New w' (Obj.cells #[Value.int IntKind.i64 i] 3) b w1 → ∃ a n m w1_1, App Tryz.prog #[23, 23] 23 w1 (Value.slice (Prod.fst (Prod.fst s)) (Prod.fst (Prod.snd (Prod.fst s)))
 (Prod.snd (Prod.snd (Prod.fst s)))) (Value.slice (some (Addr.mk b 0 none)) 1 1) (Value.slice a n m) w1_1 ∧ inR IntKind.i64 (Prod.snd s + (1 : Int)) ∧ next ((a, n, m), Prod.snd s + (1 : Int)) w1_1)
 (inR IntKind.i64 (Prod.snd s + (1 : Int)) ∧ next ((Prod.fst (Prod.fst s), Prod.fst (Prod.snd (Prod.fst s)), Prod.snd (Prod.snd (Prod.fst s))), Prod.snd s + (1 : Int)) w')) (CallV Tryz.prog 52
 [Value.slice (Prod.fst (Prod.fst s)) (Prod.fst (Prod.snd (Prod.fst s))) (Prod.snd (Prod.snd (Prod.fst s)))] w' fun e w' ↦ e = Ending.returned (Value.tuple #[]) ∧ R (Ending.returned (Value.slice
 (Prod.fst (Prod.fst s)) (Prod.fst (Prod.snd (Prod.fst s))) (Prod.snd (Prod.snd (Prod.fst s))))) w')) ((none, 0, 0), (0 : Int)) w
theorem numbers.eq (p : Option Addr) (is_ : Value) (w : World) (R : Ending → World → Prop) : bodyV Tryz.prog numbers.an Tryz.f23 [.pointer p, is_] w R = numbers.vc p is_ w R := by kernel_rfl
theorem numbers.ok (p : Option Addr) (is_ : Value) (w : World) (R : Ending → World → Prop) (h : numbers.vc p is_ w R) : Calls Tryz.prog 23 #[.pointer p, is_] w R :=
  calls_of_bodyV noNum (an := numbers.an) (args := [.pointer p, is_]) Tryz.func23 (by kernel_rfl) ((numbers.eq p is_ w R).mpr h)

/-- (*incunable/frames.Pool).Held -/
def held.an : An := { wraps := [], loops := [], joins := [], ranges := [] }
def held.vc (p : Option Addr) (w : World) (R : Ending → World → Prop) : Prop := CallV Tryz.prog 23 [Value.pointer p, Value.func (Fn.func 51) #[] #[]] w fun e w' ↦ ∃ a l c, e = Ending.returned (Value.slice a l c) ∧ R (Ending.returned (Value.slice a l c)) w'
theorem held.eq (p : Option Addr) (w : World) (R : Ending → World → Prop) : bodyV Tryz.prog held.an Tryz.f22 [.pointer p] w R = held.vc p w R := by kernel_rfl
theorem held.ok (p : Option Addr) (w : World) (R : Ending → World → Prop) (h : held.vc p w R) : Calls Tryz.prog 22 #[.pointer p] w R :=
  calls_of_bodyV noNum (an := held.an) (args := [.pointer p]) Tryz.func22 (by kernel_rfl) ((held.eq p w R).mpr h)

/-- (*incunable/frames.Pool).Held$1 -/
def heldC.an : An := { wraps := [], loops := [], joins := [], ranges := [] }
def heldC.vc (x0 : Option Addr) (w : World) (R : Ending → World → Prop) : Prop := R (Ending.returned (Value.bool true)) w
theorem heldC.eq (x0 : Option Addr) (w : World) (R : Ending → World → Prop) : bodyV Tryz.prog heldC.an Tryz.f51 [.pointer x0] w R = heldC.vc x0 w R := by kernel_rfl
theorem heldC.ok (x0 : Option Addr) (w : World) (R : Ending → World → Prop) (h : heldC.vc x0 w R) : Calls Tryz.prog 51 #[.pointer x0] w R :=
  calls_of_bodyV noNum (an := heldC.an) (args := [.pointer x0]) Tryz.func51 (by kernel_rfl) ((heldC.eq x0 w R).mpr h)

/-- (*incunable/frames.Pool).Dirty -/
def dirty.an : An := { wraps := [], loops := [], joins := [], ranges := [] }
def dirty.vc (p : Option Addr) (w : World) (R : Ending → World → Prop) : Prop := CallV Tryz.prog 23 [Value.pointer p, Value.func (Fn.func 30) #[] #[]] w fun e w' ↦ ∃ a l c, e = Ending.returned (Value.slice a l c) ∧ R (Ending.returned (Value.slice a l c)) w'
theorem dirty.eq (p : Option Addr) (w : World) (R : Ending → World → Prop) : bodyV Tryz.prog dirty.an Tryz.f11 [.pointer p] w R = dirty.vc p w R := by kernel_rfl
theorem dirty.ok (p : Option Addr) (w : World) (R : Ending → World → Prop) (h : dirty.vc p w R) : Calls Tryz.prog 11 #[.pointer p] w R :=
  calls_of_bodyV noNum (an := dirty.an) (args := [.pointer p]) Tryz.func11 (by kernel_rfl) ((dirty.eq p w R).mpr h)

/-- (*incunable/frames.Pool).Dirty$1 -/
def dirtyC.an : An := { wraps := [], loops := [], joins := [], ranges := [] }
def dirtyC.vc (f : Option Addr) (w : World) (R : Ending → World → Prop) : Prop := onP f fun a ↦ ∃ b, Ld Tryz.prog 4 w (Addr.add a 3) (Value.bool b) ∧ R (Ending.returned (Value.bool b)) w
theorem dirtyC.eq (f : Option Addr) (w : World) (R : Ending → World → Prop) : bodyV Tryz.prog dirtyC.an Tryz.f30 [.pointer f] w R = dirtyC.vc f w R := by kernel_rfl
theorem dirtyC.ok (f : Option Addr) (w : World) (R : Ending → World → Prop) (h : dirtyC.vc f w R) : Calls Tryz.prog 30 #[.pointer f] w R :=
  calls_of_bodyV noNum (an := dirtyC.an) (args := [.pointer f]) Tryz.func30 (by kernel_rfl) ((dirtyC.eq f w R).mpr h)

/-- (*incunable/frames.Pool).write -/
def fwrite.an : An := { wraps := [], loops := [(4, [(7, .inl .i64)]), (9, [(47, .inl .i64)])], joins := [(2, [(5, .inr 2)])], ranges := [] }
def fwrite.vc (p : Option Addr) (f : Option Addr) (w : World) (R : Ending → World → Prop) : Prop := ∀ b w1, New w (Obj.cells #[Value.pointer p] 36) b w1 → JoinP (fun s w' ↦ ∃ p, Ld Tryz.prog 36 (World.drew w') (Addr.mk b 0 none) (Value.pointer p) ∧ onP p fun a ↦ ∃ p, Ld Tryz.prog 35
 (World.drew w') a (Value.pointer p) ∧ ∃ p_1, Ld Tryz.prog 36 (World.drew w') (Addr.mk b 0 none) (Value.pointer p_1) ∧ onP p_1 fun a ↦ ∃ s_1, Ld Tryz.prog 9 (World.drew w') (Addr.add
 a 1) (Value.string s_1) ∧ CallV Tryz.prog 18 [Value.pointer p, Value.string s_1] (World.drew w') fun e w' ↦ ∃ i, e = Ending.returned (Value.int IntKind.i64 i) ∧ LoopP (fun (s_2 : Int) (w' :
 World) (next : Int → World → Prop) ↦ onP f fun a ↦ ∃ i, Ld Tryz.prog 3 w' a (Value.int IntKind.i64 i) ∧ inR IntKind.i64 (i * (8 : Int)) ∧ br (decide (s_2 < i * (8 : Int))) (CallV
 Tryz.prog 54 [Value.int IntKind.i64 s_2, Value.slice none 0 0, Value.pointer s, Value.pointer (some (Addr.mk b 0 none))] w' fun e w' ↦ e = Ending.returned (Value.tuple #[]) ∧ inR IntKind.i64
 (s_2 + (1 : Int)) ∧ next (s_2 + (1 : Int)) w') (onP f fun a ↦ ∃ p, Ld Tryz.prog 37 w' (Addr.add a 1) (Value.pointer p) ∧ CallV Tryz.prog 56 [Value.pointer p] w' fun e w' ↦ ∃ a l c, e
 = Ending.returned (Value.slice a l c) ∧ LoopP (fun (s_3 : Int) (w' : World) (next : Int → World → Prop) ↦ br (decide (s_3 < (8 : Int))) (onP f fun a_1 ↦ ∃ i, Ld Tryz.prog 3 (World.drew w')
 a_1 (Value.int IntKind.i64 i) ∧ inR IntKind.i64 (i * (8 : Int)) ∧ inR IntKind.i64 (i * (8 : Int) + s_3) ∧ inR IntKind.i64 (s_3 * (512 : Int)) ∧ inR IntKind.i64 (s_3 + (1 : Int)) ∧ inR IntKind.i64
 ((s_3 + (1 : Int)) * (512 : Int)) ∧ ((0 : Int) ≤ s_3 * (512 : Int) ∧ s_3 * (512 : Int) ≤ (s_3 + (1 : Int)) * (512 : Int) ∧ (s_3 + (1 : Int)) * (512 : Int) ≤ (↑c : Int)) ∧ CallV Tryz.prog 54
 [Value.int IntKind.i64 (i * (8 : Int) + s_3), Value.slice (slA a c (Int.toNat (s_3 * (512 : Int))) 1) (Int.toNat ((s_3 + (1 : Int)) * (512 : Int)) - Int.toNat (s_3 * (512 : Int))) (c - Int.toNat (s_3
 * (512 : Int))), Value.pointer s, Value.pointer (some (Addr.mk b 0 none))] (World.drew w') fun e w' ↦ e = Ending.returned (Value.tuple #[]) ∧ inR IntKind.i64 (s_3 + (1 : Int)) ∧ next (s_3 + (1 : Int))
 w') (∃ i, (onP s fun a ↦ Ld Tryz.prog 34 w' a (Value.int IntKind.i64 i)) ∧ br (decide (i = (0 : Int))) (onP f fun a ↦ ∃ w1, St Tryz.prog 4 w' (Addr.add a 3) (Value.bool false) w1 ∧ ∃
 i, (onP s fun a ↦ Ld Tryz.prog 34 w1 a (Value.int IntKind.i64 i)) ∧ R (Ending.returned (Value.int IntKind.i64 i)) w1) (∃ i, (onP s fun a ↦ Ld Tryz.prog 34 w' a (Value.int IntKind.i64
 i)) ∧ R (Ending.returned (Value.int IntKind.i64 i)) w'))) (0 : Int) w')) i w') fun (J : Option Addr → World → Prop) ↦ (∃ p, Ld Tryz.prog 36 (World.drew w1) (Addr.mk b 0 none) (Value.pointer
 p) ∧ onP p fun a ↦ ∃ v, Ld Tryz.prog 67 (World.drew w1) (Addr.add a 3) v ∧ onP f fun a_1 ↦ ∃ p_1, Ld Tryz.prog 37 (World.drew w1) (Addr.add a_1 1) (Value.pointer p_1) ∧ CallV
 Tryz.prog 53 [Value.pointer p_1] (World.drew w1) fun e w' ↦ ∃ i, e = Ending.returned (Value.int IntKind.i64 i) ∧ Ld Tryz.prog 67 w' (Addr.add a 3) v ∧ Ld Tryz.prog 36 w'
 (Addr.mk b 0 none) (Value.pointer p) ∧ CallX Tryz.prog v [Value.int IntKind.i64 i] w' fun e w' ↦ ∃ i, e = Ending.returned (Value.int IntKind.i64 i) ∧ ∀ b w1, New w' (Obj.cells #[Value.int
 IntKind.i64 0] 34) b w1 → ∃ w1_1, St Tryz.prog 34 w1 (Addr.mk b 0 none) (Value.int IntKind.i64 i) w1_1 ∧ J (some (Addr.mk b 0 none)) w1_1) ∧ (∃ p, Ld Tryz.prog 36 (World.drew w1)
 (Addr.mk b 0 none) (Value.pointer p) ∧ onP p fun a ↦ ∃ v, Ld Tryz.prog 67 (World.drew w1) (Addr.add a 3) v ∧ onP f fun a_1 ↦ ∃ p_1, Ld Tryz.prog 37 (World.drew w1) (Addr.add a_1 1)
 (Value.pointer p_1) ∧ CallV Tryz.prog 53 [Value.pointer p_1] (World.drew w1) fun e w' ↦ ∃ i, e = Ending.returned (Value.int IntKind.i64 i) ∧ Ld Tryz.prog 67 w' (Addr.add a 3) v ∧ Ld
 Tryz.prog 36 w' (Addr.mk b 0 none) (Value.pointer p) ∧ ∀ b_1 w1, New w' (Obj.cells #[Value.int IntKind.i64 0] 34) b_1 w1 → Ld Tryz.prog 67 w1 (Addr.add a 3) v ∧ Ld Tryz.prog
 36 w1 (Addr.mk b 0 none) (Value.pointer p) ∧ CallX Tryz.prog v [Value.int IntKind.i64 i] w1 fun e w' ↦ ∃ i, e = Ending.returned (Value.int IntKind.i64 i) ∧ ∃ w1, St Tryz.prog 34 w'
 (Addr.mk b_1 0 none) (Value.int IntKind.i64 i) w1 ∧ J (some (Addr.mk b_1 0 none)) w1) ∧ ∃ p, Ld Tryz.prog 36 (World.drew w1) (Addr.mk b 0 none) (Value.pointer p) ∧ onP p fun a ↦ ∃ v, Ld
 Tryz.prog 67 (World.drew w1) (Addr.add a 3) v ∧ onP f fun a_1 ↦ ∃ p_1, Ld Tryz.prog 37 (World.drew w1) (Addr.add a_1 1) (Value.pointer p_1) ∧ ∀ b_1 w1_1, New (World.drew w1)
 (Obj.cells #[Value.int IntKind.i64 0] 34) b_1 w1_1 → Ld Tryz.prog 37 w1_1 (Addr.add a_1 1) (Value.pointer p_1) ∧ Ld Tryz.prog 67 w1_1 (Addr.add a 3) v ∧ Ld Tryz.prog 36 w1_1
 (Addr.mk b 0 none) (Value.pointer p) ∧ CallV Tryz.prog 53 [Value.pointer p_1] w1_1 fun e w' ↦ ∃ i, e = Ending.returned (Value.int IntKind.i64 i) ∧ Ld Tryz.prog 67 w' (Addr.add a 3) v
 ∧ Ld Tryz.prog 36 w' (Addr.mk b 0 none) (Value.pointer p) ∧ CallX Tryz.prog v [Value.int IntKind.i64 i] w' fun e w' ↦ ∃ i, e = Ending.returned (Value.int IntKind.i64 i) ∧ ∃ w1, St
 Tryz.prog 34 w' (Addr.mk b_1 0 none) (Value.int IntKind.i64 i) w1 ∧ J (some (Addr.mk b_1 0 none)) w1
theorem fwrite.eq (p : Option Addr) (f : Option Addr) (w : World) (R : Ending → World → Prop) : bodyV Tryz.prog fwrite.an Tryz.f25 [.pointer p, .pointer f] w R = fwrite.vc p f w R := by kernel_rfl
theorem fwrite.ok (p : Option Addr) (f : Option Addr) (w : World) (R : Ending → World → Prop) (h : fwrite.vc p f w R) : Calls Tryz.prog 25 #[.pointer p, .pointer f] w R :=
  calls_of_bodyV noNum (an := fwrite.an) (args := [.pointer p, .pointer f]) Tryz.func25 (by kernel_rfl) ((fwrite.eq p f w R).mpr h)

/-- (*incunable/frames.Pool).write$1 -/
def fwriteC.an : An := { wraps := [], loops := [], joins := [], ranges := [] }
def fwriteC.vc (n : Int) (ba : Option Addr) (bn : Nat) (bc : Nat) (free0 : Option Addr) (free1 : Option Addr) (w : World) (R : Ending → World → Prop) : Prop := ∃ i, (onP free0 fun a ↦ Ld Tryz.prog 34 w a (Value.int IntKind.i64 i)) ∧ br (decide (i = (0 : Int))) (∃ p, (onP free1 fun a ↦ Ld Tryz.prog 36 (World.drew w) a (Value.pointer p)) ∧ onP
 p fun a ↦ ∃ p, Ld Tryz.prog 35 (World.drew w) a (Value.pointer p) ∧ ∃ p_1, (onP free1 fun a ↦ Ld Tryz.prog 36 (World.drew w) a (Value.pointer p_1)) ∧ onP p_1 fun a ↦ ∃ s, Ld
 Tryz.prog 9 (World.drew w) (Addr.add a 1) (Value.string s) ∧ CallV Tryz.prog 55 [Value.pointer p, Value.string s, Value.int IntKind.i64 n, Value.slice ba bn bc] (World.drew w) fun e
 w' ↦ ∃ i, e = Ending.returned (Value.int IntKind.i64 i) ∧ onP free0 fun a ↦ ∃ w1, St Tryz.prog 34 w' a (Value.int IntKind.i64 i) w1 ∧ R (Ending.returned (Value.tuple #[])) w1) (R
 (Ending.returned (Value.tuple #[])) w)
theorem fwriteC.eq (n : Int) (ba : Option Addr) (bn : Nat) (bc : Nat) (free0 : Option Addr) (free1 : Option Addr) (w : World) (R : Ending → World → Prop) : bodyV Tryz.prog fwriteC.an Tryz.f54 [.int .i64 n, .slice ba bn bc, (.pointer free0), (.pointer free1)] w R = fwriteC.vc n ba bn bc free0 free1 w R := by kernel_rfl
theorem fwriteC.ok (n : Int) (ba : Option Addr) (bn : Nat) (bc : Nat) (free0 : Option Addr) (free1 : Option Addr) (w : World) (R : Ending → World → Prop) (h : fwriteC.vc n ba bn bc free0 free1 w R) : Calls Tryz.prog 54 #[.int .i64 n, .slice ba bn bc, (.pointer free0), (.pointer free1)] w R :=
  calls_of_bodyV noNum (an := fwriteC.an) (args := [.int .i64 n, .slice ba bn bc, (.pointer free0), (.pointer free1)]) Tryz.func54 (by kernel_rfl) ((fwriteC.eq n ba bn bc free0 free1 w R).mpr h)

/-- (*incunable/frames.Pool).free -/
def free.an : An := { wraps := [], loops := [(6, [(4, .inl .i64), (41, .inl .i64)])], joins := [], ranges := [] }
def free.vc (p : Option Addr) (w : World) (R : Ending → World → Prop) : Prop := onP p fun a ↦ ∃ a_1 l c, Ld Tryz.prog 68 (World.drew w) (Addr.add a 4) (Value.slice a_1 l c) ∧ onP p fun a ↦ ∃ i, Ld Tryz.prog 3 (World.drew w) (Addr.add a 2) (Value.int IntKind.i64
 i) ∧ br (decide ((↑l : Int) < i)) (onP p fun a ↦ ∃ a_2 l c, Ld Tryz.prog 68 (World.drew w) (Addr.add a 4) (Value.slice a_2 l c) ∧ ∀ b w1, New (World.drew w) (Obj.cells #[Value.int IntKind.i64
 (-1 : Int), Value.pointer none, Value.int IntKind.i64 0, Value.bool false, Value.bool false] 63) b w1 → ∀ b_1 w1_1, New w1 (Obj.cells #[Value.pointer (some (Addr.mk b 0 none))] 61) b_1 w1_1 → ∃ a n m
 w1, App Tryz.prog #[68, 68] 68 w1_1 (Value.slice a_2 l c) (Value.slice (some (Addr.mk b_1 0 none)) 1 1) (Value.slice a n m) w1 ∧ onP p fun a_3 ↦ ∃ w1_2, St Tryz.prog 68 w1 (Addr.add
 a_3 4) (Value.slice a n m) w1_2 ∧ onP p fun a ↦ ∃ a_4 l c, Ld Tryz.prog 68 w1_2 (Addr.add a 4) (Value.slice a_4 l c) ∧ inR IntKind.i64 ((↑l : Int) - (1 : Int)) ∧ R (Ending.returned
 (Value.tuple #[Value.int IntKind.i64 ((↑l : Int) - (1 : Int)), Value.int IntKind.i64 0])) w1_2) (onP p fun a ↦ ∃ a_2 l c, Ld Tryz.prog 68 (World.drew w) (Addr.add a 4) (Value.slice a_2 l c) ∧
 inR IntKind.i64 ((2 : Int) * (↑l : Int)) ∧ LoopP (fun (s : Int × Int) (w' : World) (next : Int × Int → World → Prop) ↦ br (decide (Prod.snd s < (2 : Int) * (↑l : Int))) (onP p fun a ↦ ∃ a_3 l c, Ld
 Tryz.prog 68 (World.drew w') (Addr.add a 4) (Value.slice a_3 l c) ∧ onP p fun a ↦ ∃ i, Ld Tryz.prog 3 (World.drew w') (Addr.add a 5) (Value.int IntKind.i64 i) ∧ onP a_3 fun a ↦ ((0 :
 Int) ≤ i ∧ i < (↑l : Int)) ∧ ∃ p_1, Ld Tryz.prog 61 (World.drew w') (Addr.add a (Int.toNat i * 1)) (Value.pointer p_1) ∧ onP p fun a ↦ ∃ i, Ld Tryz.prog 3 (World.drew w') (Addr.add a
 5) (Value.int IntKind.i64 i) ∧ onP p fun a ↦ ∃ i_1, Ld Tryz.prog 3 (World.drew (World.drew w')) (Addr.add a 5) (Value.int IntKind.i64 i_1) ∧ inR IntKind.i64 (i_1 + (1 : Int)) ∧ onP p fun a ↦
 ∃ a_4 l c, Ld Tryz.prog 68 (World.drew (World.drew w')) (Addr.add a 4) (Value.slice a_4 l c) ∧ (↑l : Int) ≠ (0 : Int) ∧ onP p fun a ↦ ∃ w1, St Tryz.prog 3 (World.drew (World.drew
 w')) (Addr.add a 5) (Value.int IntKind.i64 (Int.tmod (i_1 + (1 : Int)) (↑l : Int))) w1 ∧ onP p_1 fun a ↦ ∃ i_2, Ld Tryz.prog 3 w1 (Addr.add a 2) (Value.int IntKind.i64 i_2) ∧ br (decide ((0 :
 Int) < i_2)) (inR IntKind.i64 (Prod.snd s + (1 : Int)) ∧ next (Prod.fst s, Prod.snd s + (1 : Int)) w1) (onP p_1 fun a ↦ ∃ b, Ld Tryz.prog 4 w1 (Addr.add a 4) (Value.bool b) ∧ br b (onP p_1
 fun a ↦ ∃ w1_1, St Tryz.prog 4 w1 (Addr.add a 4) (Value.bool false) w1_1 ∧ inR IntKind.i64 (Prod.snd s + (1 : Int)) ∧ next (Prod.fst s, Prod.snd s + (1 : Int)) w1_1) (br (decide (i < (0 :
 Int))) (R (Ending.returned (Value.tuple #[Value.int IntKind.i64 0, Value.int IntKind.i64 120])) w1) (onP p fun a ↦ ∃ a_5 l c, Ld Tryz.prog 68 w1 (Addr.add a 4) (Value.slice a_5 l c) ∧ onP a_5
 fun a ↦ ((0 : Int) ≤ i ∧ i < (↑l : Int)) ∧ ∃ p_2, Ld Tryz.prog 61 w1 (Addr.add a (Int.toNat i * 1)) (Value.pointer p_2) ∧ onP p_2 fun a ↦ ∃ b, Ld Tryz.prog 4 w1 (Addr.add a 3)
 (Value.bool b) ∧ br b (onP p fun a ↦ ∃ a_6 l c, Ld Tryz.prog 68 w1 (Addr.add a 4) (Value.slice a_6 l c) ∧ onP a_6 fun a ↦ ((0 : Int) ≤ i ∧ i < (↑l : Int)) ∧ ∃ p_3, Ld Tryz.prog 61 w1
 (Addr.add a (Int.toNat i * 1)) (Value.pointer p_3) ∧ CallV Tryz.prog 25 [Value.pointer p, Value.pointer p_3] w1 fun e w' ↦ ∃ i_3, e = Ending.returned (Value.int IntKind.i64 i_3) ∧ br (!decide
 (i_3 = (0 : Int))) (R (Ending.returned (Value.tuple #[Value.int IntKind.i64 0, Value.int IntKind.i64 i_3])) w') (R (Ending.returned (Value.tuple #[Value.int IntKind.i64 i, Value.int IntKind.i64 0]))
 w')) (R (Ending.returned (Value.tuple #[Value.int IntKind.i64 i, Value.int IntKind.i64 0])) w1))))) (br (decide (Prod.fst s < (0 : Int))) (R (Ending.returned (Value.tuple #[Value.int IntKind.i64 0,
 Value.int IntKind.i64 120])) w') (onP p fun a ↦ ∃ a_3 l c, Ld Tryz.prog 68 w' (Addr.add a 4) (Value.slice a_3 l c) ∧ onP a_3 fun a ↦ ((0 : Int) ≤ Prod.fst s ∧ Prod.fst s < (↑l : Int)) ∧ ∃
 p_1, Ld Tryz.prog 61 w' (Addr.add a (Int.toNat (Prod.fst s) * 1)) (Value.pointer p_1) ∧ onP p_1 fun a ↦ ∃ b, Ld Tryz.prog 4 w' (Addr.add a 3) (Value.bool b) ∧ br b (onP p fun a ↦ ∃
 a_4 l c, Ld Tryz.prog 68 w' (Addr.add a 4) (Value.slice a_4 l c) ∧ onP a_4 fun a ↦ ((0 : Int) ≤ Prod.fst s ∧ Prod.fst s < (↑l : Int)) ∧ ∃ p_2, Ld Tryz.prog 61 w' (Addr.add a
 (Int.toNat (Prod.fst s) * 1)) (Value.pointer p_2) ∧ CallV Tryz.prog 25 [Value.pointer p, Value.pointer p_2] w' fun e w' ↦ ∃ i, e = Ending.returned (Value.int IntKind.i64 i) ∧ br (!decide (i =
 (0 : Int))) (R (Ending.returned (Value.tuple #[Value.int IntKind.i64 0, Value.int IntKind.i64 i])) w') (R (Ending.returned (Value.tuple #[Value.int IntKind.i64 (Prod.fst s), Value.int IntKind.i64 0]))
 w')) (R (Ending.returned (Value.tuple #[Value.int IntKind.i64 (Prod.fst s), Value.int IntKind.i64 0])) w')))) ((-1 : Int), (0 : Int)) (World.drew w))
theorem free.eq (p : Option Addr) (w : World) (R : Ending → World → Prop) : bodyV Tryz.prog free.an Tryz.f67 [.pointer p] w R = free.vc p w R := by kernel_rfl
theorem free.ok (p : Option Addr) (w : World) (R : Ending → World → Prop) (h : free.vc p w R) : Calls Tryz.prog 67 #[.pointer p] w R :=
  calls_of_bodyV noNum (an := free.an) (args := [.pointer p]) Tryz.func67 (by kernel_rfl) ((free.eq p w R).mpr h)


end Go.Proofs.YtiagjabdfppgkaaGreat
