/- Of each function the statement that the calculus reckons, printed by a program, and that it is that statement. -/
import Derived.Test.YtiagjabdfppgkaaVcCode
import Derived.Test.YtiagjabdfppgkaaChecked
set_option linter.unusedVariables false
set_option maxRecDepth 100000
namespace Go.Proofs.Ytiagjabdfppgkaa
open Go Go.Vc

/-- no function bears the name that the model takes apart -/
theorem noNum : NoNum Try.prog := by
  have h : Try.prog.funcs.toList.all (fun fn => !(fn.name == "runtime.NumGoroutine")) = true := by kernel_rfl
  intro f fn hf
  have := List.all_eq_true.1 h fn (by have := Array.mem_of_getElem? hf; simpa using this)
  simpa using this

/-- incunable/vault.New -/
def new.an : An := { wraps := [], loops := [], joins := [], ranges := [] }
def new.vc (room : Int) (w : World) (R : Ending → World → Prop) : Prop := ∀ b w1, New w (Obj.map #[] 0) b w1 → ∀ b_1 w1_1, New w1 (Obj.map #[] 0) b_1 w1_1 → ∀ b_2 w1, New w1_1 (Obj.cells #[Value.int IntKind.i64 (min (max room (0 : Int)) (65536 : Int)), Value.slice none 0 0,
 Value.map (some b), Value.map (some b_1), Value.slice none 0 0, Value.int IntKind.i64 0, Value.int IntKind.i64 0, Value.bool false] 106) b_2 w1 → R (Ending.returned (Value.pointer (some (Addr.mk b_2 0
 none)))) w1
theorem new.eq (room : Int) (w : World) (R : Ending → World → Prop) : bodyV Try.prog new.an Try.f27 [.int .i64 room] w R = new.vc room w R := by kernel_rfl
theorem new.ok (room : Int) (w : World) (R : Ending → World → Prop) (h : new.vc room w R) : Calls Try.prog 27 #[.int .i64 room] w R :=
  calls_of_bodyV noNum (an := new.an) (args := [.int .i64 room]) Try.func27 (by kernel_rfl) ((new.eq room w R).mpr h)

/-- (*incunable/vault.Disk).Used -/
def used.an : An := { wraps := [], loops := [(3, [(3, .inl .i64)])], joins := [], ranges := [] }
def used.vc (d : Option Addr) (w : World) (R : Ending → World → Prop) : Prop := onP d fun a ↦ ∃ m, Ld Try.prog 103 w (Addr.add a 2) (Value.map m) ∧ ∃ p w1, Rng Try.prog 103 w (Value.map m) (Value.pointer p) w1 ∧ LoopP (fun (s : Int) (w' : World) (next : Int →
 World → Prop) ↦ (∃ w1, Nxt Try.prog false 0 w' (Value.pointer p) (Value.tuple #[Value.bool false]) w1 ∧ R (Ending.returned (Value.int IntKind.i64 s)) w1) ∨ ∃ k v w1, Nxt Try.prog
 false 0 w' (Value.pointer p) (Value.tuple #[Value.bool true, k, v]) w1 ∧ ∃ v i w1_1, Etr Try.prog w1 (Value.pointer p) (Value.tuple #[v, Value.int IntKind.i64 i]) w1_1 ∧ onP d fun a ↦ ∃ a_1
 l c, Ld Try.prog 102 w1_1 (Addr.add a 1) (Value.slice a_1 l c) ∧ onP a_1 fun a ↦ ((0 : Int) ≤ i ∧ i < (↑l : Int)) ∧ ∃ p, Ld Try.prog 93 w1_1 (Addr.add a (Int.toNat i * 1))
 (Value.pointer p) ∧ onP p fun a ↦ ∃ a_2 l c, Ld Try.prog 95 w1_1 a (Value.slice a_2 l c) ∧ inR IntKind.i64 (s + (↑l : Int)) ∧ next (s + (↑l : Int)) w1_1) (0 : Int) w1
theorem used.eq (d : Option Addr) (w : World) (R : Ending → World → Prop) : bodyV Try.prog used.an Try.f86 [.pointer d] w R = used.vc d w R := by kernel_rfl
theorem used.ok (d : Option Addr) (w : World) (R : Ending → World → Prop) (h : used.vc d w R) : Calls Try.prog 86 #[.pointer d] w R :=
  calls_of_bodyV noNum (an := used.an) (args := [.pointer d]) Try.func86 (by kernel_rfl) ((used.eq d w R).mpr h)

/-- (*incunable/vault.Disk).Deny -/
def deny.an : An := { wraps := [], loops := [], joins := [], ranges := [] }
def deny.vc (d : Option Addr) (k : Int) (w : World) (R : Ending → World → Prop) : Prop := onP d fun a ↦ ∃ w1, St Try.prog 3 w (Addr.add a 6) (Value.int IntKind.i64 (max k (0 : Int))) w1 ∧ R (Ending.returned (Value.tuple #[])) w1
theorem deny.eq (d : Option Addr) (k : Int) (w : World) (R : Ending → World → Prop) : bodyV Try.prog deny.an Try.f21 [.pointer d, .int .i64 k] w R = deny.vc d k w R := by kernel_rfl
theorem deny.ok (d : Option Addr) (k : Int) (w : World) (R : Ending → World → Prop) (h : deny.vc d k w R) : Calls Try.prog 21 #[.pointer d, .int .i64 k] w R :=
  calls_of_bodyV noNum (an := deny.an) (args := [.pointer d, .int .i64 k]) Try.func21 (by kernel_rfl) ((deny.eq d k w R).mpr h)

/-- (*incunable/vault.Disk).Create -/
def create.an : An := { wraps := [], loops := [], joins := [], ranges := [] }
def create.vc (d : Option Addr) (name : ByteArray) (w : World) (R : Ending → World → Prop) : Prop := ∀ b w1, New w (Obj.cells #[Value.string name] 9) b w1 → onP d fun a ↦ ∃ b_1, Ld Try.prog 4 w1 (Addr.add a 7) (Value.bool b_1) ∧ br b_1 (R (Ending.returned (Value.int IntKind.i64 93)) w1) (∃
 s, Ld Try.prog 9 w1 (Addr.mk b 0 none) (Value.string s) ∧ CallV Try.prog 81 [Value.string s] w1 fun e w' ↦ ∃ b_2, e = Ending.returned (Value.bool b_2) ∧ br (!b_2) (R
 (Ending.returned (Value.int IntKind.i64 92)) w') (onP d fun a ↦ ∃ a_1 l c, Ld Try.prog 102 w' (Addr.add a 1) (Value.slice a_1 l c) ∧ ∀ b_3 w1, New w' (Obj.cells #[Value.int IntKind.i64 0] 3)
 b_3 w1 → ∃ w1_1, St Try.prog 3 w1 (Addr.mk b_3 0 none) (Value.int IntKind.i64 (↑l : Int)) w1_1 ∧ onP d fun a ↦ ∃ a_2 l c, Ld Try.prog 102 w1_1 (Addr.add a 1) (Value.slice a_2 l c)
 ∧ ∀ b_4 w1, New w1_1 (Obj.map #[] 0) b_4 w1 → ∀ b_5 w1_2, New w1 (Obj.cells #[Value.slice none 0 0, Value.slice none 0 0, Value.map (some b_4)] 98) b_5 w1_2 → ∀ b_6 w1, New w1_2 (Obj.cells
 #[Value.pointer (some (Addr.mk b_5 0 none))] 93) b_6 w1 → ∃ a n m w1_3, App Try.prog #[102, 102] 102 w1 (Value.slice a_2 l c) (Value.slice (some (Addr.mk b_6 0 none)) 1 1) (Value.slice a n
 m) w1_3 ∧ onP d fun a_3 ↦ ∃ w1, St Try.prog 102 w1_3 (Addr.add a_3 1) (Value.slice a n m) w1 ∧ CallV Try.prog 82 [Value.pointer d, Value.func (Fn.func 83) #[] #[Value.pointer (some
 (Addr.mk b_3 0 none)), Value.pointer (some (Addr.mk b 0 none))]] w1 fun e w' ↦ ∃ i, e = Ending.returned (Value.int IntKind.i64 i) ∧ R (Ending.returned (Value.int IntKind.i64 i)) w'))
theorem create.eq (d : Option Addr) (name : ByteArray) (w : World) (R : Ending → World → Prop) : bodyV Try.prog create.an Try.f68 [.pointer d, .string name] w R = create.vc d name w R := by kernel_rfl
theorem create.ok (d : Option Addr) (name : ByteArray) (w : World) (R : Ending → World → Prop) (h : create.vc d name w R) : Calls Try.prog 68 #[.pointer d, .string name] w R :=
  calls_of_bodyV noNum (an := create.an) (args := [.pointer d, .string name]) Try.func68 (by kernel_rfl) ((create.eq d name w R).mpr h)

/-- (*incunable/vault.Disk).Write -/
def write.an : An := { wraps := [], loops := [], joins := [], ranges := [] }
def write.vc (d : Option Addr) (name : ByteArray) (n : Int) (ba : Option Addr) (bn : Nat) (bc : Nat) (w : World) (R : Ending → World → Prop) : Prop := CallV Try.prog 41 [Value.pointer d, Value.string name] w fun e w' ↦ ∃ p, e = Ending.returned (Value.pointer p) ∧ onP d fun a ↦ ∃ b, Ld Try.prog 4 w' (Addr.add a 7) (Value.bool b) ∧
 br b (R (Ending.returned (Value.int IntKind.i64 93)) w') (∃ b, Eqv Try.prog BinOp.eql 93 (Operand.tmp 20) (Operand.const (Value.pointer none)) w' (Value.pointer p) (Value.pointer none) b ∧
 br b (R (Ending.returned (Value.int IntKind.i64 90)) w') (br (decide (n < (0 : Int))) (R (Ending.returned (Value.int IntKind.i64 91)) w') (onP p fun a ↦ ∃ a_1 l c, Ld Try.prog 95 w' a
 (Value.slice a_1 l c) ∧ br (decide ((↑l : Int) < n)) (R (Ending.returned (Value.int IntKind.i64 91)) w') (br (decide ((512 : Int) < (↑bn : Int))) (R (Ending.returned (Value.int IntKind.i64 91)) w')
 (onP p fun a ↦ ∃ a_2 l c, Ld Try.prog 95 (World.drew w') a (Value.slice a_2 l c) ∧ br (decide (n = (↑l : Int))) (onP d fun a ↦ ∃ i, Ld Try.prog 3 (World.drew w') a (Value.int
 IntKind.i64 i) ∧ CallV Try.prog 86 [Value.pointer d] (World.drew w') fun e w' ↦ ∃ i_1, e = Ending.returned (Value.int IntKind.i64 i_1) ∧ Ld Try.prog 3 w' a (Value.int IntKind.i64
 i) ∧ br (decide (i ≤ i_1)) (R (Ending.returned (Value.int IntKind.i64 94)) w') (CallV Try.prog 77 [Value.pointer d] w' fun e w' ↦ ∃ b, e = Ending.returned (Value.bool b) ∧ br b (R
 (Ending.returned (Value.int IntKind.i64 95)) w') (∀ b w1, New w' (Obj.cells (List.toArray (zl Try.prog 123)) 123) b w1 → ∃ n_1 w1_1, Cpy Try.prog #[70, 70] 3 w1 (Value.slice (some
 (Addr.mk b 0 none)) 512 512) (Value.slice ba bn bc) (Value.int IntKind.i64 n_1) w1_1 ∧ onP p fun a ↦ ∃ a_3 l c, Ld Try.prog 95 w1_1 a (Value.slice a_3 l c) ∧ br (decide (n = (↑l : Int)))
 (onP p fun a ↦ ∃ a_4 l c, Ld Try.prog 95 (World.drew w1_1) a (Value.slice a_4 l c) ∧ ∃ (cs : List Value), Ld Try.prog 123 (World.drew w1_1) (Addr.mk b 0 none) (Value.agg
 (List.toArray cs)) ∧ ∃ (e : TypeId), ∃ (l_1 : List Value), BuildS Try.prog 95 1 [(0, Value.agg (List.toArray cs))] e l_1 ∧ ∀ b_1 w1, New (World.drew w1_1) (Obj.cells (List.toArray l_1) e)
 b_1 w1 → Ld Try.prog 95 w1 a (Value.slice a_4 l c) ∧ ∃ a n_2 m w1_2, App Try.prog #[95, 95] 95 w1 (Value.slice a_4 l c) (Value.slice (some (Addr.mk b_1 0 none)) 1 1) (Value.slice a
 n_2 m) w1_2 ∧ onP p fun a_6 ↦ ∃ w1, St Try.prog 95 w1_2 a_6 (Value.slice a n_2 m) w1 ∧ onP p fun a ↦ ∃ a_7 l c, Ld Try.prog 95 (World.drew w1) a (Value.slice a_7 l c) ∧ onP p fun a
 ↦ ∃ m, Ld Try.prog 96 (World.drew w1) (Addr.add a 2) (Value.map m) ∧ ∃ (cs : List Value), Ld Try.prog 123 (World.drew w1) (Addr.mk b 0 none) (Value.agg (List.toArray cs)) ∧ onP a_7
 fun a ↦ ((0 : Int) ≤ n ∧ n < (↑l : Int)) ∧ ∃ w1_3, St Try.prog 123 (World.drew w1) (Addr.add a (Int.toNat n * 512)) (Value.agg (List.toArray cs)) w1_3 ∧ ∃ v i w1, MEn Try.prog 96
 w1_3 (Value.map m) (Value.int IntKind.i64 n) (Value.tuple #[v, Value.int IntKind.i64 i]) w1 ∧ ∃ w1_4, ESt Try.prog 96 w1 (Value.map m) (Value.int IntKind.i64 i) (Value.bool true) w1_4 ∧
 CallV Try.prog 87 [Value.pointer d] w1_4 fun (e : Ending) (w' : World) ↦ ∃ i, e = Ending.returned (Value.int IntKind.i64 i) ∧ R (Ending.returned (Value.int IntKind.i64 i)) w') (onP p fun a ↦
 ∃ a_4 l c, Ld Try.prog 95 (World.drew w1_1) a (Value.slice a_4 l c) ∧ onP p fun a ↦ ∃ m, Ld Try.prog 96 (World.drew w1_1) (Addr.add a 2) (Value.map m) ∧ ∃ (cs : List Value), Ld
 Try.prog 123 (World.drew w1_1) (Addr.mk b 0 none) (Value.agg (List.toArray cs)) ∧ onP a_4 fun a ↦ ((0 : Int) ≤ n ∧ n < (↑l : Int)) ∧ ∃ w1, St Try.prog 123 (World.drew w1_1)
 (Addr.add a (Int.toNat n * 512)) (Value.agg (List.toArray cs)) w1 ∧ ∃ v i w1_2, MEn Try.prog 96 w1 (Value.map m) (Value.int IntKind.i64 n) (Value.tuple #[v, Value.int IntKind.i64 i]) w1_2 ∧
 ∃ w1, ESt Try.prog 96 w1_2 (Value.map m) (Value.int IntKind.i64 i) (Value.bool true) w1 ∧ CallV Try.prog 87 [Value.pointer d] w1 fun e w' ↦ ∃ i, e = Ending.returned (Value.int
 IntKind.i64 i) ∧ R (Ending.returned (Value.int IntKind.i64 i)) w')))) (CallV Try.prog 77 [Value.pointer d] (World.drew w') fun e w' ↦ ∃ b, e = Ending.returned (Value.bool b) ∧ br b (R
 (Ending.returned (Value.int IntKind.i64 95)) w') (∀ b w1, New w' (Obj.cells (List.toArray (zl Try.prog 123)) 123) b w1 → ∃ n_1 w1_1, Cpy Try.prog #[70, 70] 3 w1 (Value.slice (some
 (Addr.mk b 0 none)) 512 512) (Value.slice ba bn bc) (Value.int IntKind.i64 n_1) w1_1 ∧ onP p fun a ↦ ∃ a_3 l c, Ld Try.prog 95 w1_1 a (Value.slice a_3 l c) ∧ br (decide (n = (↑l : Int)))
 (onP p fun a ↦ ∃ a_4 l c, Ld Try.prog 95 (World.drew w1_1) a (Value.slice a_4 l c) ∧ ∃ (cs : List Value), Ld Try.prog 123 (World.drew w1_1) (Addr.mk b 0 none) (Value.agg
 (List.toArray cs)) ∧ ∃ (e : TypeId), ∃ (l_1 : List Value), BuildS Try.prog 95 1 [(0, Value.agg (List.toArray cs))] e l_1 ∧ ∀ b_1 w1, New (World.drew w1_1) (Obj.cells (List.toArray l_1) e)
 b_1 w1 → Ld Try.prog 95 w1 a (Value.slice a_4 l c) ∧ ∃ a n_2 m w1_2, App Try.prog #[95, 95] 95 w1 (Value.slice a_4 l c) (Value.slice (some (Addr.mk b_1 0 none)) 1 1) (Value.slice a
 n_2 m) w1_2 ∧ onP p fun a_6 ↦ ∃ w1, St Try.prog 95 w1_2 a_6 (Value.slice a n_2 m) w1 ∧ onP p fun a ↦ ∃ a_7 l c, Ld Try.prog 95 (World.drew w1) a (Value.slice a_7 l c) ∧ onP p fun a
 ↦ ∃ m, Ld Try.prog 96 (World.drew w1) (Addr.add a 2) (Value.map m) ∧ ∃ (cs : List Value), Ld Try.prog 123 (World.drew w1) (Addr.mk b 0 none) (Value.agg (List.toArray cs)) ∧ onP a_7
 fun a ↦ ((0 : Int) ≤ n ∧ n < (↑l : Int)) ∧ ∃ w1_3, St Try.prog 123 (World.drew w1) (Addr.add a (Int.toNat n * 512)) (Value.agg (List.toArray cs)) w1_3 ∧ ∃ v i w1, MEn Try.prog 96
 w1_3 (Value.map m) (Value.int IntKind.i64 n) (Value.tuple #[v, Value.int IntKind.i64 i]) w1 ∧ ∃ w1_4, ESt Try.prog 96 w1 (Value.map m) (Value.int IntKind.i64 i) (Value.bool true) w1_4 ∧
 CallV Try.prog 87 [Value.pointer d] w1_4 fun e w' ↦ ∃ i, e = Ending.returned (Value.int IntKind.i64 i) ∧ R (Ending.returned (Value.int IntKind.i64 i)) w') (onP p fun a ↦ ∃ a_4 l c, Ld
 Try.prog 95 (World.drew w1_1) a (Value.slice a_4 l c) ∧ onP p fun a ↦ ∃ m, Ld Try.prog 96 (World.drew w1_1) (Addr.add a 2) (Value.map m) ∧ ∃ (cs : List Value), Ld
 Try.prog 123 (World.drew w1_1) (Addr.mk b 0 none) (Value.agg (List.toArray cs)) ∧ onP a_4 fun a ↦ ((0 : Int) ≤ n ∧ n < (↑l : Int)) ∧ ∃ w1, St Try.prog 123 (World.drew w1_1)
 (Addr.add a (Int.toNat n * 512)) (Value.agg (List.toArray cs)) w1 ∧ ∃ v i w1_2, MEn Try.prog 96 w1 (Value.map m) (Value.int IntKind.i64 n) (Value.tuple #[v, Value.int IntKind.i64 i]) w1_2 ∧
 ∃ w1, ESt Try.prog 96 w1_2 (Value.map m) (Value.int IntKind.i64 i) (Value.bool true) w1 ∧ CallV Try.prog 87 [Value.pointer d] w1 fun e w' ↦ ∃ i, e = Ending.returned (Value.int
 IntKind.i64 i) ∧ R (Ending.returned (Value.int IntKind.i64 i)) w'))))))))
theorem write.eq (d : Option Addr) (name : ByteArray) (n : Int) (ba : Option Addr) (bn : Nat) (bc : Nat) (w : World) (R : Ending → World → Prop) : bodyV Try.prog write.an Try.f75 [.pointer d, .string name, .int .i64 n, .slice ba bn bc] w R = write.vc d name n ba bn bc w R := by kernel_rfl
theorem write.ok (d : Option Addr) (name : ByteArray) (n : Int) (ba : Option Addr) (bn : Nat) (bc : Nat) (w : World) (R : Ending → World → Prop) (h : write.vc d name n ba bn bc w R) : Calls Try.prog 75 #[.pointer d, .string name, .int .i64 n, .slice ba bn bc] w R :=
  calls_of_bodyV noNum (an := write.an) (args := [.pointer d, .string name, .int .i64 n, .slice ba bn bc]) Try.func75 (by kernel_rfl) ((write.eq d name n ba bn bc w R).mpr h)

/-- (*incunable/vault.Disk).Sync -/
def sync.an : An := { wraps := [], loops := [], joins := [], ranges := [] }
def sync.vc (d : Option Addr) (name : ByteArray) (w : World) (R : Ending → World → Prop) : Prop := CallV Try.prog 41 [Value.pointer d, Value.string name] w fun e w' ↦ ∃ p, e = Ending.returned (Value.pointer p) ∧ onP d fun a ↦ ∃ b, Ld Try.prog 4 w' (Addr.add a 7) (Value.bool b) ∧
 br b (R (Ending.returned (Value.int IntKind.i64 93)) w') (∃ b, Eqv Try.prog BinOp.eql 93 (Operand.tmp 15) (Operand.const (Value.pointer none)) w' (Value.pointer p) (Value.pointer none) b ∧
 br b (R (Ending.returned (Value.int IntKind.i64 90)) w') (CallV Try.prog 77 [Value.pointer d] w' fun e w' ↦ ∃ b, e = Ending.returned (Value.bool b) ∧ br b (R (Ending.returned (Value.int
 IntKind.i64 95)) w') (CallV Try.prog 78 [Value.pointer d] w' fun e w' ↦ ∃ b, e = Ending.returned (Value.bool b) ∧ br b (R (Ending.returned (Value.int IntKind.i64 93)) w') (onP p fun a ↦ ∃
 a_1 l c, Ld Try.prog 95 w' a (Value.slice a_1 l c) ∧ CallV Try.prog 79 [Value.slice a_1 l c] w' fun e w' ↦ ∃ a l c, e = Ending.returned (Value.slice a l c) ∧ onP p fun a_2 ↦ ∃ w1,
 St Try.prog 95 w' (Addr.add a_2 1) (Value.slice a l c) w1 ∧ onP p fun a ↦ ∃ m, Ld Try.prog 96 w1 (Addr.add a 2) (Value.map m) ∧ ∃ w1_1, Clr Try.prog #[96] 0 w1 (Value.map
 m) w1_1 ∧ R (Ending.returned (Value.int IntKind.i64 0)) w1_1))))
theorem sync.eq (d : Option Addr) (name : ByteArray) (w : World) (R : Ending → World → Prop) : bodyV Try.prog sync.an Try.f54 [.pointer d, .string name] w R = sync.vc d name w R := by kernel_rfl
theorem sync.ok (d : Option Addr) (name : ByteArray) (w : World) (R : Ending → World → Prop) (h : sync.vc d name w R) : Calls Try.prog 54 #[.pointer d, .string name] w R :=
  calls_of_bodyV noNum (an := sync.an) (args := [.pointer d, .string name]) Try.func54 (by kernel_rfl) ((sync.eq d name w R).mpr h)

/-- (*incunable/vault.Disk).Read -/
def read.an : An := { wraps := [], loops := [], joins := [], ranges := [] }
def read.vc (d : Option Addr) (name : ByteArray) (n : Int) (w : World) (R : Ending → World → Prop) : Prop := CallV Try.prog 41 [Value.pointer d, Value.string name] w fun e w' ↦ ∃ p, e = Ending.returned (Value.pointer p) ∧ onP d fun a ↦ ∃ b, Ld Try.prog 4 w' (Addr.add a 7) (Value.bool b) ∧
 br b (R (Ending.returned (Value.tuple #[Value.slice none 0 0, Value.int IntKind.i64 93])) w') (∃ b, Eqv Try.prog BinOp.eql 93 (Operand.tmp 19) (Operand.const (Value.pointer none)) w'
 (Value.pointer p) (Value.pointer none) b ∧ br b (R (Ending.returned (Value.tuple #[Value.slice none 0 0, Value.int IntKind.i64 90])) w') (br (decide (n < (0 : Int))) (R (Ending.returned (Value.tuple
 #[Value.slice none 0 0, Value.int IntKind.i64 91])) w') (onP p fun a ↦ ∃ a_1 l c, Ld Try.prog 95 w' a (Value.slice a_1 l c) ∧ br (decide ((↑l : Int) ≤ n)) (R (Ending.returned (Value.tuple
 #[Value.slice none 0 0, Value.int IntKind.i64 91])) w') (onP p fun a ↦ ∃ a_2 l c, Ld Try.prog 95 w' a (Value.slice a_2 l c) ∧ onP a_2 fun a ↦ ((0 : Int) ≤ n ∧ n < (↑l : Int)) ∧ ∃ (cs : List
 Value), Ld Try.prog 123 w' (Addr.add a (Int.toNat n * 512)) (Value.agg (List.toArray cs)) ∧ ∀ b w1, New w' (Obj.cells (List.toArray (zl Try.prog 123)) 123) b w1 → ∃ w1_1, St
 Try.prog 123 w1 (Addr.mk b 0 none) (Value.agg (List.toArray cs)) w1_1 ∧ R (Ending.returned (Value.tuple #[Value.slice (some (Addr.mk b 0 none)) 512 512, Value.int IntKind.i64 0])) w1_1))))
theorem read.eq (d : Option Addr) (name : ByteArray) (n : Int) (w : World) (R : Ending → World → Prop) : bodyV Try.prog read.an Try.f33 [.pointer d, .string name, .int .i64 n] w R = read.vc d name n w R := by kernel_rfl
theorem read.ok (d : Option Addr) (name : ByteArray) (n : Int) (w : World) (R : Ending → World → Prop) (h : read.vc d name n w R) : Calls Try.prog 33 #[.pointer d, .string name, .int .i64 n] w R :=
  calls_of_bodyV noNum (an := read.an) (args := [.pointer d, .string name, .int .i64 n]) Try.func33 (by kernel_rfl) ((read.eq d name n w R).mpr h)

/-- (*incunable/vault.Disk).Size -/
def size.an : An := { wraps := [], loops := [], joins := [], ranges := [] }
def size.vc (d : Option Addr) (name : ByteArray) (w : World) (R : Ending → World → Prop) : Prop := CallV Try.prog 41 [Value.pointer d, Value.string name] w fun e w' ↦ ∃ p, e = Ending.returned (Value.pointer p) ∧ ∃ b, Eqv Try.prog BinOp.eql 93 (Operand.tmp 9) (Operand.const
 (Value.pointer none)) w' (Value.pointer p) (Value.pointer none) b ∧ br b (R (Ending.returned (Value.int IntKind.i64 (-1 : Int))) w') (onP p fun a ↦ ∃ a_1 l c, Ld Try.prog 95 w' a
 (Value.slice a_1 l c) ∧ R (Ending.returned (Value.int IntKind.i64 (↑l : Int))) w')
theorem size.eq (d : Option Addr) (name : ByteArray) (w : World) (R : Ending → World → Prop) : bodyV Try.prog size.an Try.f17 [.pointer d, .string name] w R = size.vc d name w R := by kernel_rfl
theorem size.ok (d : Option Addr) (name : ByteArray) (w : World) (R : Ending → World → Prop) (h : size.vc d name w R) : Calls Try.prog 17 #[.pointer d, .string name] w R :=
  calls_of_bodyV noNum (an := size.an) (args := [.pointer d, .string name]) Try.func17 (by kernel_rfl) ((size.eq d name w R).mpr h)

/-- incunable/vault.right -/
def right.an : An := { wraps := [], loops := [], joins := [], ranges := [] }
def right.vc (name : ByteArray) (w : World) (R : Ending → World → Prop) : Prop := br (!decide (name = ByteArray.mk #[])) (R (Ending.returned (Value.bool (decide ((↑(ByteArray.size name) : Int) ≤ (60 : Int))))) w) (R (Ending.returned (Value.bool false)) w)
theorem right.eq (name : ByteArray) (w : World) (R : Ending → World → Prop) : bodyV Try.prog right.an Try.f81 [.string name] w R = right.vc name w R := by kernel_rfl
theorem right.ok (name : ByteArray) (w : World) (R : Ending → World → Prop) (h : right.vc name w R) : Calls Try.prog 81 #[.string name] w R :=
  calls_of_bodyV noNum (an := right.an) (args := [.string name]) Try.func81 (by kernel_rfl) ((right.eq name w R).mpr h)

/-- (*incunable/vault.Disk).rename -/
def drenameC.an : An := { wraps := [], loops := [], joins := [], ranges := [] }
def drenameC.vc (d : Option Addr) (x : Option Addr) (y : Option Addr) (w : World) (R : Ending → World → Prop) : Prop := onP d fun a ↦ ∃ m, Ld Try.prog 103 w (Addr.add a 2) (Value.map m) ∧ CallV Try.prog 83 [Value.map m, Value.pointer x, Value.pointer y] w fun e w' ↦ e = Ending.returned (Value.tuple
 #[]) ∧ onP d fun a ↦ ∃ a_1 l c, Ld Try.prog 104 w' (Addr.add a 4) (Value.slice a_1 l c) ∧ ∀ b w1, New w' (Obj.cells #[Value.func (Fn.func 83) #[] #[Value.pointer x, Value.pointer y]] 147) b
 w1 → ∃ a n m w1_1, App Try.prog #[104, 104] 104 w1 (Value.slice a_1 l c) (Value.slice (some (Addr.mk b 0 none)) 1 1) (Value.slice a n m) w1_1 ∧ onP d fun a_2 ↦ ∃ w1, St Try.prog
 104 w1_1 (Addr.add a_2 4) (Value.slice a n m) w1 ∧ CallV Try.prog 87 [Value.pointer d] w1 fun e w' ↦ ∃ i, e = Ending.returned (Value.int IntKind.i64 i) ∧ R (Ending.returned (Value.int
 IntKind.i64 i)) w'
theorem drenameC.eq (d : Option Addr) (x : Option Addr) (y : Option Addr) (w : World) (R : Ending → World → Prop) : bodyV Try.prog drenameC.an Try.f82 [.pointer d, (.func (.func 83) #[] #[.pointer x, .pointer y])] w R = drenameC.vc d x y w R := by kernel_rfl
theorem drenameC.ok (d : Option Addr) (x : Option Addr) (y : Option Addr) (w : World) (R : Ending → World → Prop) (h : drenameC.vc d x y w R) : Calls Try.prog 82 #[.pointer d, (.func (.func 83) #[] #[.pointer x, .pointer y])] w R :=
  calls_of_bodyV noNum (an := drenameC.an) (args := [.pointer d, (.func (.func 83) #[] #[.pointer x, .pointer y])]) Try.func82 (by kernel_rfl) ((drenameC.eq d x y w R).mpr h)

/-- (*incunable/vault.Disk).Create$1 -/
def createC.an : An := { wraps := [], loops := [], joins := [], ranges := [] }
def createC.vc (names : Option Nat) (free0 : Option Addr) (free1 : Option Addr) (w : World) (R : Ending → World → Prop) : Prop := ∃ s, (onP free1 fun a ↦ Ld Try.prog 9 w a (Value.string s)) ∧ ∃ i, (onP free0 fun a ↦ Ld Try.prog 3 w a (Value.int IntKind.i64 i)) ∧ ∃ w1, MUp Try.prog 103 w (Value.map
 names) (Value.string s) (Value.int IntKind.i64 i) w1 ∧ R (Ending.returned (Value.tuple #[])) w1
theorem createC.eq (names : Option Nat) (free0 : Option Addr) (free1 : Option Addr) (w : World) (R : Ending → World → Prop) : bodyV Try.prog createC.an Try.f83 [.map names, (.pointer free0), (.pointer free1)] w R = createC.vc names free0 free1 w R := by kernel_rfl
theorem createC.ok (names : Option Nat) (free0 : Option Addr) (free1 : Option Addr) (w : World) (R : Ending → World → Prop) (h : createC.vc names free0 free1 w R) : Calls Try.prog 83 #[.map names, (.pointer free0), (.pointer free1)] w R :=
  calls_of_bodyV noNum (an := createC.an) (args := [.map names, (.pointer free0), (.pointer free1)]) Try.func83 (by kernel_rfl) ((createC.eq names free0 free1 w R).mpr h)

/-- (*incunable/vault.Disk).find -/
def find.an : An := { wraps := [], loops := [], joins := [], ranges := [] }
def find.vc (d : Option Addr) (name : ByteArray) (w : World) (R : Ending → World → Prop) : Prop := onP d fun a ↦ ∃ m, Ld Try.prog 103 w (Addr.add a 2) (Value.map m) ∧ ∃ i b, Lk Try.prog 103 true w (Value.map m) (Value.string name) (Value.tuple #[Value.int IntKind.i64 i,
 Value.bool b]) ∧ br (!b) (R (Ending.returned (Value.pointer none)) w) (onP d fun a ↦ ∃ a_1 l c, Ld Try.prog 102 w (Addr.add a 1) (Value.slice a_1 l c) ∧ onP a_1 fun a ↦ ((0 : Int) ≤ i ∧ i <
 (↑l : Int)) ∧ ∃ p, Ld Try.prog 93 w (Addr.add a (Int.toNat i * 1)) (Value.pointer p) ∧ R (Ending.returned (Value.pointer p)) w)
theorem find.eq (d : Option Addr) (name : ByteArray) (w : World) (R : Ending → World → Prop) : bodyV Try.prog find.an Try.f41 [.pointer d, .string name] w R = find.vc d name w R := by kernel_rfl
theorem find.ok (d : Option Addr) (name : ByteArray) (w : World) (R : Ending → World → Prop) (h : find.vc d name w R) : Calls Try.prog 41 #[.pointer d, .string name] w R :=
  calls_of_bodyV noNum (an := find.an) (args := [.pointer d, .string name]) Try.func41 (by kernel_rfl) ((find.eq d name w R).mpr h)

/-- (*incunable/vault.Disk).denies -/
def denies.an : An := { wraps := [], loops := [], joins := [], ranges := [] }
def denies.vc (d : Option Addr) (w : World) (R : Ending → World → Prop) : Prop := onP d fun a ↦ ∃ i, Ld Try.prog 3 w (Addr.add a 6) (Value.int IntKind.i64 i) ∧ br (decide (i = (0 : Int))) (R (Ending.returned (Value.bool false)) w) (onP d fun a ↦ ∃ i, Ld Try.prog
 3 w (Addr.add a 6) (Value.int IntKind.i64 i) ∧ inR IntKind.i64 (i - (1 : Int)) ∧ onP d fun a ↦ ∃ w1, St Try.prog 3 w (Addr.add a 6) (Value.int IntKind.i64 (i - (1 : Int))) w1 ∧ onP d fun a ↦
 ∃ i, Ld Try.prog 3 w1 (Addr.add a 6) (Value.int IntKind.i64 i) ∧ R (Ending.returned (Value.bool (decide (i = (0 : Int))))) w1)
theorem denies.eq (d : Option Addr) (w : World) (R : Ending → World → Prop) : bodyV Try.prog denies.an Try.f77 [.pointer d] w R = denies.vc d w R := by kernel_rfl
theorem denies.ok (d : Option Addr) (w : World) (R : Ending → World → Prop) (h : denies.vc d w R) : Calls Try.prog 77 #[.pointer d] w R :=
  calls_of_bodyV noNum (an := denies.an) (args := [.pointer d]) Try.func77 (by kernel_rfl) ((denies.eq d w R).mpr h)

/-- (*incunable/vault.Disk).done -/
def done.an : An := { wraps := [], loops := [], joins := [], ranges := [] }
def done.vc (d : Option Addr) (w : World) (R : Ending → World → Prop) : Prop := CallV Try.prog 78 [Value.pointer d] w fun e w' ↦ ∃ b, e = Ending.returned (Value.bool b) ∧ br b (R (Ending.returned (Value.int IntKind.i64 93)) w') (R (Ending.returned (Value.int IntKind.i64
 0)) w')
theorem done.eq (d : Option Addr) (w : World) (R : Ending → World → Prop) : bodyV Try.prog done.an Try.f87 [.pointer d] w R = done.vc d w R := by kernel_rfl
theorem done.ok (d : Option Addr) (w : World) (R : Ending → World → Prop) (h : done.vc d w R) : Calls Try.prog 87 #[.pointer d] w R :=
  calls_of_bodyV noNum (an := done.an) (args := [.pointer d]) Try.func87 (by kernel_rfl) ((done.eq d w R).mpr h)

/-- (*incunable/vault.Disk).dies -/
def dies.an : An := { wraps := [], loops := [], joins := [], ranges := [] }
def dies.vc (d : Option Addr) (w : World) (R : Ending → World → Prop) : Prop := onP d fun a ↦ ∃ i, Ld Try.prog 3 w (Addr.add a 5) (Value.int IntKind.i64 i) ∧ br (decide ((0 : Int) < i)) (onP d fun a ↦ ∃ i, Ld Try.prog 3 w (Addr.add a 5) (Value.int IntKind.i64
 i) ∧ inR IntKind.i64 (i - (1 : Int)) ∧ onP d fun a ↦ ∃ w1, St Try.prog 3 w (Addr.add a 5) (Value.int IntKind.i64 (i - (1 : Int))) w1 ∧ onP d fun a ↦ ∃ i, Ld Try.prog 3 w1 (Addr.add
 a 5) (Value.int IntKind.i64 i) ∧ onP d fun a ↦ ∃ w1_1, St Try.prog 4 w1 (Addr.add a 7) (Value.bool (decide (i = (0 : Int)))) w1_1 ∧ onP d fun a ↦ ∃ b, Ld Try.prog 4 w1_1 (Addr.add
 a 7) (Value.bool b) ∧ R (Ending.returned (Value.bool b)) w1_1) (onP d fun a ↦ ∃ b, Ld Try.prog 4 w (Addr.add a 7) (Value.bool b) ∧ R (Ending.returned (Value.bool b)) w)
theorem dies.eq (d : Option Addr) (w : World) (R : Ending → World → Prop) : bodyV Try.prog dies.an Try.f78 [.pointer d] w R = dies.vc d w R := by kernel_rfl
theorem dies.ok (d : Option Addr) (w : World) (R : Ending → World → Prop) (h : dies.vc d w R) : Calls Try.prog 78 #[.pointer d] w R :=
  calls_of_bodyV noNum (an := dies.an) (args := [.pointer d]) Try.func78 (by kernel_rfl) ((dies.eq d w R).mpr h)

/-- slices.Clone[[]incunable/vault.sector,incunable/vault.sector] -/
def cloneS.an : An := { wraps := [], loops := [], joins := [], ranges := [] }
def cloneS.vc (sa : Option Addr) (sn : Nat) (sc : Nat) (w : World) (R : Ending → World → Prop) : Prop := ∃ b, Eqv Try.prog BinOp.eql 95 (Operand.tmp 3) (Operand.const (Value.slice none 0 0)) w (Value.slice sa sn sc) (Value.slice none 0 0) b ∧ br b (R (Ending.returned (Value.slice none 0 0)) w)
 (∃ (e : TypeId), ∃ (l : List Value), BuildS Try.prog 95 0 [] e l ∧ ∀ b w1, New w (Obj.cells (List.toArray l) e) b w1 → ∃ a n m w1_1, App Try.prog #[95, 95] 95 w1 (Value.slice (some
 (Addr.mk b 0 none)) 0 0) (Value.slice sa sn sc) (Value.slice a n m) w1_1 ∧ R (Ending.returned (Value.slice a n m)) w1_1)
theorem cloneS.eq (sa : Option Addr) (sn : Nat) (sc : Nat) (w : World) (R : Ending → World → Prop) : bodyV Try.prog cloneS.an Try.f79 [.slice sa sn sc] w R = cloneS.vc sa sn sc w R := by kernel_rfl
theorem cloneS.ok (sa : Option Addr) (sn : Nat) (sc : Nat) (w : World) (R : Ending → World → Prop) (h : cloneS.vc sa sn sc w R) : Calls Try.prog 79 #[.slice sa sn sc] w R :=
  calls_of_bodyV noNum (an := cloneS.an) (args := [.slice sa sn sc]) Try.func79 (by kernel_rfl) ((cloneS.eq sa sn sc w R).mpr h)

/-- incunable/slate.New -/
def snew.an : An := { wraps := [], loops := [], joins := [], ranges := [] }
def snew.vc  (w : World) (R : Ending → World → Prop) : Prop := ∀ b w1, New w (Obj.cells (List.toArray (bigL Try.prog 76 [(2, Value.int IntKind.i64 4096)])) 76) b w1 → R (Ending.returned (Value.pointer (some (Addr.mk b 0 none)))) w1
theorem snew.eq  (w : World) (R : Ending → World → Prop) : bodyV Try.prog snew.an Try.f29 [] w R = snew.vc  w R := by kernel_rfl
theorem snew.ok  (w : World) (R : Ending → World → Prop) (h : snew.vc  w R) : Calls Try.prog 29 #[] w R :=
  calls_of_bodyV noNum (an := snew.an) (args := []) Try.func29 (by kernel_rfl) ((snew.eq  w R).mpr h)

/-- (*incunable/slate.Page).two -/
def two.an : An := { wraps := [], loops := [], joins := [], ranges := [] }
def two.vc (p : Option Addr) (at_ : Int) (w : World) (R : Ending → World → Prop) : Prop := onP p fun a ↦ ((0 : Int) ≤ at_ ∧ at_ < (↑(4096 : Nat) : Int)) ∧ ∃ i, Ld Try.prog 5 (World.drew w) (Addr.add a (Int.toNat at_ * 1)) (Value.int IntKind.u8 i) ∧ (0 : Int) ≤ (8 : Int) ∧ inR
 IntKind.i64 (IntKind.wrap IntKind.i64 i * (2 : Int) ^ min (Int.toNat (8 : Int)) (IntKind.bits IntKind.i64)) ∧ inR IntKind.i64 (at_ + (1 : Int)) ∧ onP p fun a ↦ ((0 : Int) ≤ at_ + (1 : Int) ∧ at_ + (1
 : Int) < (↑(4096 : Nat) : Int)) ∧ ∃ i_1, Ld Try.prog 5 (World.drew w) (Addr.add a (Int.toNat (at_ + (1 : Int)) * 1)) (Value.int IntKind.u8 i_1) ∧ R (Ending.returned (Value.int IntKind.i64
 (Vc.bits BinOp.or IntKind.i64 (IntKind.wrap IntKind.i64 i * (2 : Int) ^ min (Int.toNat (8 : Int)) (IntKind.bits IntKind.i64)) (IntKind.wrap IntKind.i64 i_1)))) (World.drew w)
theorem two.eq (p : Option Addr) (at_ : Int) (w : World) (R : Ending → World → Prop) : bodyV Try.prog two.an Try.f62 [.pointer p, .int .i64 at_] w R = two.vc p at_ w R := by kernel_rfl
theorem two.ok (p : Option Addr) (at_ : Int) (w : World) (R : Ending → World → Prop) (h : two.vc p at_ w R) : Calls Try.prog 62 #[.pointer p, .int .i64 at_] w R :=
  calls_of_bodyV noNum (an := two.an) (args := [.pointer p, .int .i64 at_]) Try.func62 (by kernel_rfl) ((two.eq p at_ w R).mpr h)

/-- (*incunable/slate.Page).lay -/
def lay.an : An := { wraps := [], loops := [], joins := [], ranges := [] }
def lay.vc (p : Option Addr) (at_ : Int) (n : Int) (w : World) (R : Ending → World → Prop) : Prop := inR IntKind.i64 (at_ + (1 : Int)) ∧ (0 : Int) ≤ (8 : Int) ∧ onP p fun a ↦ ((0 : Int) ≤ at_ ∧ at_ < (↑(4096 : Nat) : Int)) ∧ onP p fun a_1 ↦ ∃ w1, St Try.prog 5 (World.drew w) (Addr.add a
 (Int.toNat at_ * 1)) (Value.int IntKind.u8 (IntKind.wrap IntKind.u8 (Int.fdiv n ((2 : Int) ^ min (Int.toNat (8 : Int)) (IntKind.bits IntKind.i64))))) w1 ∧ ((0 : Int) ≤ at_ + (1 : Int) ∧ at_ + (1 :
 Int) < (↑(4096 : Nat) : Int)) ∧ ∃ w1_1, St Try.prog 5 w1 (Addr.add a_1 (Int.toNat (at_ + (1 : Int)) * 1)) (Value.int IntKind.u8 (IntKind.wrap IntKind.u8 n)) w1_1 ∧ R (Ending.returned
 (Value.tuple #[])) w1_1
theorem lay.eq (p : Option Addr) (at_ : Int) (n : Int) (w : World) (R : Ending → World → Prop) : bodyV Try.prog lay.an Try.f60 [.pointer p, .int .i64 at_, .int .i64 n] w R = lay.vc p at_ n w R := by kernel_rfl
theorem lay.ok (p : Option Addr) (at_ : Int) (n : Int) (w : World) (R : Ending → World → Prop) (h : lay.vc p at_ n w R) : Calls Try.prog 60 #[.pointer p, .int .i64 at_, .int .i64 n] w R :=
  calls_of_bodyV noNum (an := lay.an) (args := [.pointer p, .int .i64 at_, .int .i64 n]) Try.func60 (by kernel_rfl) ((lay.eq p at_ n w R).mpr h)

/-- (*incunable/slate.Page).slot -/
def slot.an : An := { wraps := [], loops := [], joins := [], ranges := [] }
def slot.vc (p : Option Addr) (k : Int) (w : World) (R : Ending → World → Prop) : Prop := br (decide (k < (0 : Int))) (R (Ending.returned (Value.tuple #[Value.int IntKind.i64 0, Value.int IntKind.i64 0])) w) (onP p fun a ↦ ∃ i, Ld Try.prog 3 w (Addr.add a 4096) (Value.int
 IntKind.i64 i) ∧ br (decide (i ≤ k)) (R (Ending.returned (Value.tuple #[Value.int IntKind.i64 0, Value.int IntKind.i64 0])) w) (inR IntKind.i64 ((4 : Int) * k) ∧ inR IntKind.i64 ((10 : Int) + (4 :
 Int) * k) ∧ CallV Try.prog 62 [Value.pointer p, Value.int IntKind.i64 ((10 : Int) + (4 : Int) * k)] w fun e w' ↦ ∃ i, e = Ending.returned (Value.int IntKind.i64 i) ∧ inR IntKind.i64 ((4 :
 Int) * k) ∧ inR IntKind.i64 ((10 : Int) + (4 : Int) * k) ∧ inR IntKind.i64 ((10 : Int) + (4 : Int) * k + (2 : Int)) ∧ CallV Try.prog 62 [Value.pointer p, Value.int IntKind.i64 ((10 : Int) +
 (4 : Int) * k + (2 : Int))] w' fun e w' ↦ ∃ i_1, e = Ending.returned (Value.int IntKind.i64 i_1) ∧ R (Ending.returned (Value.tuple #[Value.int IntKind.i64 i, Value.int IntKind.i64 i_1])) w'))
theorem slot.eq (p : Option Addr) (k : Int) (w : World) (R : Ending → World → Prop) : bodyV Try.prog slot.an Try.f57 [.pointer p, .int .i64 k] w R = slot.vc p k w R := by kernel_rfl
theorem slot.ok (p : Option Addr) (k : Int) (w : World) (R : Ending → World → Prop) (h : slot.vc p k w R) : Calls Try.prog 57 #[.pointer p, .int .i64 k] w R :=
  calls_of_bodyV noNum (an := slot.an) (args := [.pointer p, .int .i64 k]) Try.func57 (by kernel_rfl) ((slot.eq p k w R).mpr h)

/-- (*incunable/slate.Page).set -/
def set.an : An := { wraps := [], loops := [], joins := [], ranges := [] }
def set.vc (p : Option Addr) (k : Int) (at_ : Int) (long : Int) (w : World) (R : Ending → World → Prop) : Prop := inR IntKind.i64 ((4 : Int) * k) ∧ inR IntKind.i64 ((10 : Int) + (4 : Int) * k) ∧ CallV Try.prog 60 [Value.pointer p, Value.int IntKind.i64 ((10 : Int) + (4 : Int) * k), Value.int IntKind.i64
 at_] w fun e w' ↦ e = Ending.returned (Value.tuple #[]) ∧ inR IntKind.i64 ((4 : Int) * k) ∧ inR IntKind.i64 ((10 : Int) + (4 : Int) * k) ∧ inR IntKind.i64 ((10 : Int) + (4 : Int) * k + (2 : Int)) ∧
 CallV Try.prog 60 [Value.pointer p, Value.int IntKind.i64 ((10 : Int) + (4 : Int) * k + (2 : Int)), Value.int IntKind.i64 long] w' fun e w' ↦ e = Ending.returned (Value.tuple #[]) ∧ R
 (Ending.returned (Value.tuple #[])) w'
theorem set.eq (p : Option Addr) (k : Int) (at_ : Int) (long : Int) (w : World) (R : Ending → World → Prop) : bodyV Try.prog set.an Try.f59 [.pointer p, .int .i64 k, .int .i64 at_, .int .i64 long] w R = set.vc p k at_ long w R := by kernel_rfl
theorem set.ok (p : Option Addr) (k : Int) (at_ : Int) (long : Int) (w : World) (R : Ending → World → Prop) (h : set.vc p k at_ long w R) : Calls Try.prog 59 #[.pointer p, .int .i64 k, .int .i64 at_, .int .i64 long] w R :=
  calls_of_bodyV noNum (an := set.an) (args := [.pointer p, .int .i64 k, .int .i64 at_, .int .i64 long]) Try.func59 (by kernel_rfl) ((set.eq p k at_ long w R).mpr h)

/-- (*incunable/slate.Page).each -/
def each.an : An := { wraps := [], loops := [(1, [(11, .inl .i64)])], joins := [], ranges := [] }
def each.vc (p : Option Addr) (yield : Value) (w : World) (R : Ending → World → Prop) : Prop := onP p fun a ↦ ∃ i, Ld Try.prog 3 w (Addr.add a 4096) (Value.int IntKind.i64 i) ∧ LoopP (fun (s : Int) (w' : World) (next : Int → World → Prop) ↦ br (decide (s < i)) (CallV Try.prog
 57 [Value.pointer p, Value.int IntKind.i64 s] w' fun e w' ↦ ∃ i i_1, e = Ending.returned (Value.tuple #[Value.int IntKind.i64 i, Value.int IntKind.i64 i_1]) ∧ br (decide ((0 : Int) < i)) (CallX
 Try.prog yield [Value.int IntKind.i64 s] w' fun e w' ↦ ∃ b, e = Ending.returned (Value.bool b) ∧ br (!b) (R (Ending.returned (Value.tuple #[])) w') (inR IntKind.i64 (s + (1 : Int)) ∧ next (s
 + (1 : Int)) w')) (inR IntKind.i64 (s + (1 : Int)) ∧ next (s + (1 : Int)) w')) (R (Ending.returned (Value.tuple #[])) w')) (0 : Int) w
theorem each.eq (p : Option Addr) (yield : Value) (w : World) (R : Ending → World → Prop) : bodyV Try.prog each.an Try.f49 [.pointer p, yield] w R = each.vc p yield w R := by kernel_rfl
theorem each.ok (p : Option Addr) (yield : Value) (w : World) (R : Ending → World → Prop) (h : each.vc p yield w R) : Calls Try.prog 49 #[.pointer p, yield] w R :=
  calls_of_bodyV noNum (an := each.an) (args := [.pointer p, yield]) Try.func49 (by kernel_rfl) ((each.eq p yield w R).mpr h)

/-- (*incunable/slate.Page).Slots -/
def slots.an : An := { wraps := [], loops := [], joins := [], ranges := [(4, [(7, .inl .i64)])] }
def slots.vc (p : Option Addr) (w : World) (R : Ending → World → Prop) : Prop := ∀ b w1, New w (Obj.cells #[Value.slice none 0 0] 34) b w1 → ∃ (gf : FuncId), ∃ (fi : Array Value), ∃ (ca : Array Value), Value.func (Fn.func 49) #[Value.pointer p] #[] = Value.func (Fn.func gf) fi ca ∧
 HasBody Try.prog gf ∧ RangeP Try.prog gf (Array.toList fi) (Array.toList ca) (fun s ↦ [Value.int IntKind.i64 s]) (fun (s : Int) (w' : World) (begin : World → (World → Prop) → Prop)
 (kn kr : World → Prop) (kx : Nat → World → Prop) ↦ begin w' fun w2 ↦ ∃ a l c, Ld Try.prog 34 w2 (Addr.mk b 0 none) (Value.slice a l c) ∧ ∀ b_1 w1, New w2 (Obj.cells #[Value.int IntKind.i64
 s] 3) b_1 w1 → ∃ a_2 n m w1_1, App Try.prog #[34, 34] 34 w1 (Value.slice a l c) (Value.slice (some (Addr.mk b_1 0 none)) 1 1) (Value.slice a_2 n m) w1_1 ∧ ∃ w1, St Try.prog 34 w1_1
 (Addr.mk b 0 none) (Value.slice a_2 n m) w1 ∧ kn w1) w1 (fun D w' ↦ ∃ a l c, Ld Try.prog 34 w' (Addr.mk b 0 none) (Value.slice a l c) ∧ ∃ w1, ShutD w' D w1 ∧ R (Ending.returned (Value.slice
 a l c)) w1) (fun D w' ↦ False) fun (id D : Nat) (w' : World) ↦ False
theorem slots.eq (p : Option Addr) (w : World) (R : Ending → World → Prop) : bodyV Try.prog slots.an Try.f69 [.pointer p] w R = slots.vc p w R := by kernel_rfl
theorem slots.ok (p : Option Addr) (w : World) (R : Ending → World → Prop) (h : slots.vc p w R) : Calls Try.prog 69 #[.pointer p] w R :=
  calls_of_bodyV noNum (an := slots.an) (args := [.pointer p]) Try.func69 (by kernel_rfl) ((slots.eq p w R).mpr h)

/-- (*incunable/slate.Page).Room -/
def room.an : An := { wraps := [], loops := [], joins := [], ranges := [(4, [(9, .inl .i64)])] }
def room.vc (p : Option Addr) (w : World) (R : Ending → World → Prop) : Prop := ∀ b w1, New w (Obj.cells #[Value.pointer p] 31) b w1 → ∀ b_1 w1_1, New w1 (Obj.cells #[Value.int IntKind.i64 0] 3) b_1 w1_1 → ∃ w1, St Try.prog 3 w1_1 (Addr.mk b_1 0 none) (Value.int
 IntKind.i64 3600) w1 ∧ ∃ p, Ld Try.prog 31 w1 (Addr.mk b 0 none) (Value.pointer p) ∧ ∃ (gf : FuncId), ∃ (fi : Array Value), ∃ (ca : Array Value), Value.func (Fn.func 49) #[Value.pointer p]
 #[] = Value.func (Fn.func gf) fi ca ∧ HasBody Try.prog gf ∧ RangeP Try.prog gf (Array.toList fi) (Array.toList ca) (fun s ↦ [Value.int IntKind.i64 s]) (fun (s : Int) (w' : World)
 (begin : World → (World → Prop) → Prop) (kn kr : World → Prop) (kx : Nat → World → Prop) ↦ begin w' fun w2 ↦ ∃ p, Ld Try.prog 31 w2 (Addr.mk b 0 none) (Value.pointer p) ∧ CallV
 Try.prog 57 [Value.pointer p, Value.int IntKind.i64 s] w2 fun e w' ↦ ∃ i i_1, e = Ending.returned (Value.tuple #[Value.int IntKind.i64 i, Value.int IntKind.i64 i_1]) ∧ ∃ i, Ld
 Try.prog 3 w' (Addr.mk b_1 0 none) (Value.int IntKind.i64 i) ∧ inR IntKind.i64 (i - i_1) ∧ ∃ w1, St Try.prog 3 w' (Addr.mk b_1 0 none) (Value.int IntKind.i64 (i - i_1)) w1 ∧ kn w1)
 w1 (fun D w' ↦ ∃ i, Ld Try.prog 3 w' (Addr.mk b_1 0 none) (Value.int IntKind.i64 i) ∧ ∃ w1, ShutD w' D w1 ∧ R (Ending.returned (Value.int IntKind.i64 i)) w1) (fun D w' ↦ False) fun (id D :
 Nat) (w' : World) ↦ False
theorem room.eq (p : Option Addr) (w : World) (R : Ending → World → Prop) : bodyV Try.prog room.an Try.f56 [.pointer p] w R = room.vc p w R := by kernel_rfl
theorem room.ok (p : Option Addr) (w : World) (R : Ending → World → Prop) (h : room.vc p w R) : Calls Try.prog 56 #[.pointer p] w R :=
  calls_of_bodyV noNum (an := room.an) (args := [.pointer p]) Try.func56 (by kernel_rfl) ((room.eq p w R).mpr h)

/-- (*incunable/slate.Page).Get -/
def get.an : An := { wraps := [], loops := [], joins := [], ranges := [] }
def get.vc (p : Option Addr) (slot : Int) (w : World) (R : Ending → World → Prop) : Prop := CallV Try.prog 57 [Value.pointer p, Value.int IntKind.i64 slot] w fun e w' ↦ ∃ i i_1, e = Ending.returned (Value.tuple #[Value.int IntKind.i64 i, Value.int IntKind.i64 i_1]) ∧ br (decide (i =
 (0 : Int))) (R (Ending.returned (Value.tuple #[Value.string (ByteArray.mk #[]), Value.bool false])) w') (onP p fun a ↦ inR IntKind.i64 (i + i_1) ∧ ((0 : Int) ≤ i ∧ i ≤ i + i_1 ∧ i + i_1 ≤ (↑(4096 :
 Nat) : Int)) ∧ ∃ s, B2S Try.prog 70 9 w' (Value.slice (slA (some a) 4096 (Int.toNat i) 1) (Int.toNat (i + i_1) - Int.toNat i) (4096 - Int.toNat i)) (Value.string s) ∧ R (Ending.returned
 (Value.tuple #[Value.string s, Value.bool true])) w')
theorem get.eq (p : Option Addr) (slot : Int) (w : World) (R : Ending → World → Prop) : bodyV Try.prog get.an Try.f70 [.pointer p, .int .i64 slot] w R = get.vc p slot w R := by kernel_rfl
theorem get.ok (p : Option Addr) (slot : Int) (w : World) (R : Ending → World → Prop) (h : get.vc p slot w R) : Calls Try.prog 70 #[.pointer p, .int .i64 slot] w R :=
  calls_of_bodyV noNum (an := get.an) (args := [.pointer p, .int .i64 slot]) Try.func70 (by kernel_rfl) ((get.eq p slot w R).mpr h)

/-- (*incunable/slate.Page).drop -/
def drop.an : An := { wraps := [], loops := [(12, [])], joins := [], ranges := [(6, [(42, .inl .i64)])] }
def drop.vc (p : Option Addr) (slot : Int) (w : World) (R : Ending → World → Prop) : Prop := ∀ b w1, New w (Obj.cells #[Value.pointer p] 31) b w1 → ∃ p, Ld Try.prog 31 w1 (Addr.mk b 0 none) (Value.pointer p) ∧ CallV Try.prog 57 [Value.pointer p, Value.int IntKind.i64 slot]
 w1 fun e w' ↦ ∃ i i_1, e = Ending.returned (Value.tuple #[Value.int IntKind.i64 i, Value.int IntKind.i64 i_1]) ∧ ∀ b_1 w1, New w' (Obj.cells #[Value.int IntKind.i64 0] 3) b_1 w1 → ∀ b_2 w1_1, New w1
 (Obj.cells #[Value.int IntKind.i64 0] 3) b_2 w1_1 → ∃ w1, St Try.prog 3 w1_1 (Addr.mk b_1 0 none) (Value.int IntKind.i64 i) w1 ∧ ∃ w1_2, St Try.prog 3 w1 (Addr.mk b_2 0 none)
 (Value.int IntKind.i64 i_1) w1_2 ∧ ∃ i, Ld Try.prog 3 w1_2 (Addr.mk b_1 0 none) (Value.int IntKind.i64 i) ∧ br (decide (i = (0 : Int))) (R (Ending.returned (Value.tuple #[])) w1_2) (∃ p, Ld
 Try.prog 31 (World.drew w1_2) (Addr.mk b 0 none) (Value.pointer p) ∧ onP p fun a ↦ ∃ p, Ld Try.prog 31 (World.drew w1_2) (Addr.mk b 0 none) (Value.pointer p) ∧ onP p fun a_1 ↦ ∃ i,
 Ld Try.prog 3 (World.drew w1_2) (Addr.add a_1 4097) (Value.int IntKind.i64 i) ∧ ∃ i_2, Ld Try.prog 3 (World.drew w1_2) (Addr.mk b_2 0 none) (Value.int IntKind.i64 i_2) ∧ inR
 IntKind.i64 (i + i_2) ∧ ∃ i_3, Ld Try.prog 3 (World.drew w1_2) (Addr.mk b_1 0 none) (Value.int IntKind.i64 i_3) ∧ ∃ i_4, Ld Try.prog 3 (World.drew w1_2) (Addr.mk b_2 0 none)
 (Value.int IntKind.i64 i_4) ∧ inR IntKind.i64 (i_3 + i_4) ∧ ((0 : Int) ≤ i + i_2 ∧ i + i_2 ≤ i_3 + i_4 ∧ i_3 + i_4 ≤ (↑(4096 : Nat) : Int)) ∧ ∃ p, Ld Try.prog 31 (World.drew w1_2) (Addr.mk b
 0 none) (Value.pointer p) ∧ onP p fun a_2 ↦ ∃ p, Ld Try.prog 31 (World.drew w1_2) (Addr.mk b 0 none) (Value.pointer p) ∧ onP p fun a_3 ↦ ∃ i_5, Ld Try.prog 3 (World.drew w1_2)
 (Addr.add a_3 4097) (Value.int IntKind.i64 i_5) ∧ ∃ i_6, Ld Try.prog 3 (World.drew w1_2) (Addr.mk b_1 0 none) (Value.int IntKind.i64 i_6) ∧ ((0 : Int) ≤ i_5 ∧ i_5 ≤ i_6 ∧ i_6 ≤ (↑(4096 :
 Nat) : Int)) ∧ ∃ n w1, Cpy Try.prog #[70, 70] 3 (World.drew w1_2) (Value.slice (slA (some a) 4096 (Int.toNat (i + i_2)) 1) (Int.toNat (i_3 + i_4) - Int.toNat (i + i_2)) (4096 - Int.toNat (i
 + i_2))) (Value.slice (slA (some a_2) 4096 (Int.toNat i_5) 1) (Int.toNat i_6 - Int.toNat i_5) (4096 - Int.toNat i_5)) (Value.int IntKind.i64 n) w1 ∧ ∃ p, Ld Try.prog 31 w1 (Addr.mk b 0 none)
 (Value.pointer p) ∧ ∃ (gf : FuncId), ∃ (fi : Array Value), ∃ (ca : Array Value), Value.func (Fn.func 49) #[Value.pointer p] #[] = Value.func (Fn.func gf) fi ca ∧ HasBody Try.prog gf ∧ RangeP
 Try.prog gf (Array.toList fi) (Array.toList ca) (fun s ↦ [Value.int IntKind.i64 s]) (fun (s : Int) (w' : World) (begin : World → (World → Prop) → Prop) (kn kr : World → Prop) (kx : Nat →
 World → Prop) ↦ begin w' fun w2 ↦ ∃ p, Ld Try.prog 31 w2 (Addr.mk b 0 none) (Value.pointer p) ∧ CallV Try.prog 57 [Value.pointer p, Value.int IntKind.i64 s] w2 fun e w' ↦ ∃ i i_7,
 e = Ending.returned (Value.tuple #[Value.int IntKind.i64 i, Value.int IntKind.i64 i_7]) ∧ ∃ i_8, Ld Try.prog 3 w' (Addr.mk b_1 0 none) (Value.int IntKind.i64 i_8) ∧ br (decide (i ≤ i_8)) (∃
 p, Ld Try.prog 31 w' (Addr.mk b 0 none) (Value.pointer p) ∧ ∃ i_9, Ld Try.prog 3 w' (Addr.mk b_2 0 none) (Value.int IntKind.i64 i_9) ∧ inR IntKind.i64 (i + i_9) ∧ CallV
 Try.prog 59 [Value.pointer p, Value.int IntKind.i64 s, Value.int IntKind.i64 (i + i_9), Value.int IntKind.i64 i_7] w' fun e w' ↦ e = Ending.returned (Value.tuple #[]) ∧ kn w') (kn w')) w1
 (fun D w' ↦ ∃ p, Ld Try.prog 31 (World.drew w') (Addr.mk b 0 none) (Value.pointer p) ∧ onP p fun a ↦ ∃ p, Ld Try.prog 31 (World.drew w') (Addr.mk b 0 none) (Value.pointer p) ∧ onP
 p fun a_4 ↦ ∃ i, Ld Try.prog 3 (World.drew w') (Addr.add a_4 4097) (Value.int IntKind.i64 i) ∧ ∃ p, Ld Try.prog 31 (World.drew w') (Addr.mk b 0 none) (Value.pointer p) ∧ onP p fun
 a_5 ↦ ∃ i_7, Ld Try.prog 3 (World.drew w') (Addr.add a_5 4097) (Value.int IntKind.i64 i_7) ∧ ∃ i_8, Ld Try.prog 3 (World.drew w') (Addr.mk b_2 0 none) (Value.int IntKind.i64 i_8) ∧
 inR IntKind.i64 (i_7 + i_8) ∧ ((0 : Int) ≤ i ∧ i ≤ i_7 + i_8 ∧ i_7 + i_8 ≤ (↑(4096 : Nat) : Int)) ∧ ∃ w1, Clr Try.prog #[70] 0 (World.drew w') (Value.slice (slA (some a) 4096 (Int.toNat i)
 1) (Int.toNat (i_7 + i_8) - Int.toNat i) (4096 - Int.toNat i)) w1 ∧ ∃ p, Ld Try.prog 31 (World.drew w1) (Addr.mk b 0 none) (Value.pointer p) ∧ onP p fun a ↦ ∃ i, Ld Try.prog 3
 (World.drew w1) (Addr.add a 4097) (Value.int IntKind.i64 i) ∧ ∃ i_9, Ld Try.prog 3 (World.drew w1) (Addr.mk b_2 0 none) (Value.int IntKind.i64 i_9) ∧ inR IntKind.i64 (i + i_9) ∧ onP p fun a
 ↦ ∃ w1_3, St Try.prog 3 (World.drew w1) (Addr.add a 4097) (Value.int IntKind.i64 (i + i_9)) w1_3 ∧ ∃ p, Ld Try.prog 31 w1_3 (Addr.mk b 0 none) (Value.pointer p) ∧ CallV
 Try.prog 59 [Value.pointer p, Value.int IntKind.i64 slot, Value.int IntKind.i64 0, Value.int IntKind.i64 0] w1_3 fun (e : Ending) (w' : World) ↦ e = Ending.returned (Value.tuple #[]) ∧ LoopP
 (fun (s : PUnit) (w' : World) (next : PUnit → World → Prop) ↦ ∃ (p : Option Addr), Ld Try.prog 31 (World.drew w') (Addr.mk b 0 none) (Value.pointer p) ∧ onP p fun (a : Addr) ↦ ∃ (i : Int),
 Ld Try.prog 3 (World.drew w') (Addr.add a 4096) (Value.int IntKind.i64 i) ∧ br (decide ((0 : Int) < i)) (∃ (p : Option Addr), Ld Try.prog 31 (World.drew w') (Addr.mk b 0 none)
 (Value.pointer p) ∧ ∃ (p_1 : Option Addr), Ld Try.prog 31 (World.drew w') (Addr.mk b 0 none) (Value.pointer p_1) ∧ onP p_1 fun (a : Addr) ↦ ∃ (i : Int), Ld Try.prog 3 (World.drew
 w') (Addr.add a 4096) (Value.int IntKind.i64 i) ∧ inR IntKind.i64 (i - (1 : Int)) ∧ inR IntKind.i64 ((4 : Int) * (i - (1 : Int))) ∧ inR IntKind.i64 ((10 : Int) + (4 : Int) * (i - (1 : Int))) ∧ CallV
 Try.prog 62 [Value.pointer p, Value.int IntKind.i64 ((10 : Int) + (4 : Int) * (i - (1 : Int)))] (World.drew w') fun (e : Ending) (w' : World) ↦ ∃ (i : Int), e = Ending.returned (Value.int
 IntKind.i64 i) ∧ br (decide (i = (0 : Int))) (∃ (p : Option Addr), Ld Try.prog 31 w' (Addr.mk b 0 none) (Value.pointer p) ∧ onP p fun (a : Addr) ↦ ∃ (i : Int), Ld Try.prog 3 w'
 (Addr.add a 4096) (Value.int IntKind.i64 i) ∧ inR IntKind.i64 (i - (1 : Int)) ∧ onP p fun (a : Addr) ↦ ∃ (w1 : World), St Try.prog 3 w' (Addr.add a 4096) (Value.int IntKind.i64 (i - (1 :
 Int))) w1 ∧ next () w1) (∃ (p : Option Addr), Ld Try.prog 31 (World.drew w') (Addr.mk b 0 none) (Value.pointer p) ∧ ∃ (p_2 : Option Addr), Ld Try.prog 31 (World.drew w') (Addr.mk b
 0 none) (Value.pointer p_2) ∧ onP p_2 fun (a : Addr) ↦ ∃ (i : Int), Ld Try.prog 3 (World.drew w') (Addr.add a 4096) (Value.int IntKind.i64 i) ∧ CallV Try.prog 60 [Value.pointer p,
 Value.int IntKind.i64 8, Value.int IntKind.i64 i] (World.drew w') fun (e : Ending) (w' : World) ↦ e = Ending.returned (Value.tuple #[]) ∧ ∃ (w1 : World), ShutD w' D w1 ∧ R (Ending.returned
 (Value.tuple #[])) w1)) (∃ (p : Option Addr), Ld Try.prog 31 (World.drew (World.drew w')) (Addr.mk b 0 none) (Value.pointer p) ∧ ∃ (p_1 : Option Addr), Ld Try.prog 31 (World.drew
 (World.drew w')) (Addr.mk b 0 none) (Value.pointer p_1) ∧ onP p_1 fun (a : Addr) ↦ ∃ (i : Int), Ld Try.prog 3 (World.drew (World.drew w')) (Addr.add a 4096) (Value.int IntKind.i64 i) ∧ CallV
 Try.prog 60 [Value.pointer p, Value.int IntKind.i64 8, Value.int IntKind.i64 i] (World.drew (World.drew w')) fun (e : Ending) (w' : World) ↦ e = Ending.returned (Value.tuple #[]) ∧ ∃ (w1 :
 World), ShutD w' D w1 ∧ R (Ending.returned (Value.tuple #[])) w1)) () w') (fun D w' ↦ False) fun (id D : Nat) (w' : World) ↦ False)
theorem drop.eq (p : Option Addr) (slot : Int) (w : World) (R : Ending → World → Prop) : bodyV Try.prog drop.an Try.f58 [.pointer p, .int .i64 slot] w R = drop.vc p slot w R := by kernel_rfl
theorem drop.ok (p : Option Addr) (slot : Int) (w : World) (R : Ending → World → Prop) (h : drop.vc p slot w R) : Calls Try.prog 58 #[.pointer p, .int .i64 slot] w R :=
  calls_of_bodyV noNum (an := drop.an) (args := [.pointer p, .int .i64 slot]) Try.func58 (by kernel_rfl) ((drop.eq p slot w R).mpr h)

/-- (*incunable/slate.Page).Put -/
def put.an : An := { wraps := [], loops := [(10, [])], joins := [(7, [(7, .inl .i64)])], ranges := [] }
def put.vc (p : Option Addr) (slot : Int) (s : ByteArray) (w : World) (R : Ending → World → Prop) : Prop := br (decide (slot < (0 : Int))) (R (Ending.returned (Value.int IntKind.i64 110)) w) (br (decide ((120 : Int) ≤ slot)) (R (Ending.returned (Value.int IntKind.i64 110)) w) (CallV Try.prog 56
 [Value.pointer p] w fun e w' ↦ ∃ i, e = Ending.returned (Value.int IntKind.i64 i) ∧ CallV Try.prog 57 [Value.pointer p, Value.int IntKind.i64 slot] w' fun e w' ↦ ∃ i_1 i_2, e =
 Ending.returned (Value.tuple #[Value.int IntKind.i64 i_1, Value.int IntKind.i64 i_2]) ∧ JoinP (fun s_1 w' ↦ br (decide (s_1 < (↑(ByteArray.size s) : Int))) (R (Ending.returned (Value.int IntKind.i64
 111)) w') (CallV Try.prog 58 [Value.pointer p, Value.int IntKind.i64 slot] w' fun e w' ↦ e = Ending.returned (Value.tuple #[]) ∧ LoopP (fun (s_2 : PUnit) (w' : World) (next : PUnit → World →
 Prop) ↦ onP p fun a ↦ ∃ i, Ld Try.prog 3 w' (Addr.add a 4096) (Value.int IntKind.i64 i) ∧ br (decide (i ≤ slot)) (onP p fun a ↦ ∃ i, Ld Try.prog 3 w' (Addr.add a 4096) (Value.int
 IntKind.i64 i) ∧ CallV Try.prog 59 [Value.pointer p, Value.int IntKind.i64 i, Value.int IntKind.i64 0, Value.int IntKind.i64 0] w' fun e w' ↦ e = Ending.returned (Value.tuple #[]) ∧ onP p
 fun a ↦ ∃ i, Ld Try.prog 3 w' (Addr.add a 4096) (Value.int IntKind.i64 i) ∧ inR IntKind.i64 (i + (1 : Int)) ∧ onP p fun a ↦ ∃ w1, St Try.prog 3 w' (Addr.add a 4096) (Value.int
 IntKind.i64 (i + (1 : Int))) w1 ∧ next () w1) (onP p fun a ↦ ∃ i, Ld Try.prog 3 w' (Addr.add a 4096) (Value.int IntKind.i64 i) ∧ CallV Try.prog 60 [Value.pointer p, Value.int
 IntKind.i64 8, Value.int IntKind.i64 i] w' fun e w' ↦ e = Ending.returned (Value.tuple #[]) ∧ onP p fun a ↦ ∃ i, Ld Try.prog 3 w' (Addr.add a 4097) (Value.int IntKind.i64 i) ∧ inR
 IntKind.i64 (i - (↑(ByteArray.size s) : Int)) ∧ onP p fun a ↦ ∃ w1, St Try.prog 3 w' (Addr.add a 4097) (Value.int IntKind.i64 (i - (↑(ByteArray.size s) : Int))) w1 ∧ onP p fun a ↦ onP p fun
 a_1 ↦ ∃ i, Ld Try.prog 3 (World.drew w1) (Addr.add a_1 4097) (Value.int IntKind.i64 i) ∧ ((0 : Int) ≤ i ∧ i ≤ (↑(4096 : Nat) : Int)) ∧ ∃ n w1_1, Cpy Try.prog #[70, 9] 3 (World.drew
 w1) (Value.slice (slA (some a) 4096 (Int.toNat i) 1) (4096 - Int.toNat i) (4096 - Int.toNat i)) (Value.string s) (Value.int IntKind.i64 n) w1_1 ∧ onP p fun a ↦ ∃ i, Ld Try.prog 3 w1_1
 (Addr.add a 4097) (Value.int IntKind.i64 i) ∧ CallV Try.prog 59 [Value.pointer p, Value.int IntKind.i64 slot, Value.int IntKind.i64 i, Value.int IntKind.i64 (↑(ByteArray.size s) : Int)] w1_1
 fun e w' ↦ e = Ending.returned (Value.tuple #[]) ∧ R (Ending.returned (Value.int IntKind.i64 0)) w')) () w')) fun (J : Int → World → Prop) ↦ br (decide ((0 : Int) < i_1)) (inR IntKind.i64 (i + i_2) ∧
 J (i + i_2) w') (J i w')))
theorem put.eq (p : Option Addr) (slot : Int) (s : ByteArray) (w : World) (R : Ending → World → Prop) : bodyV Try.prog put.an Try.f31 [.pointer p, .int .i64 slot, .string s] w R = put.vc p slot s w R := by kernel_rfl
theorem put.ok (p : Option Addr) (slot : Int) (s : ByteArray) (w : World) (R : Ending → World → Prop) (h : put.vc p slot s w R) : Calls Try.prog 31 #[.pointer p, .int .i64 slot, .string s] w R :=
  calls_of_bodyV noNum (an := put.an) (args := [.pointer p, .int .i64 slot, .string s]) Try.func31 (by kernel_rfl) ((put.eq p slot s w R).mpr h)

/-- (*incunable/slate.Page).Insert -/
def insert.an : An := { wraps := [], loops := [], joins := [], ranges := [(4, [(11, .inl .i64)])] }
def insert.vc (p : Option Addr) (s : ByteArray) (w : World) (R : Ending → World → Prop) : Prop := ∀ b w1, New w (Obj.cells #[Value.int IntKind.i64 0] 3) b w1 → ∃ w1_1, St Try.prog 3 w1 (Addr.mk b 0 none) (Value.int IntKind.i64 0) w1_1 ∧ ∃ (gf : FuncId), ∃ (fi : Array Value), ∃ (ca : Array
 Value), Value.func (Fn.func 49) #[Value.pointer p] #[] = Value.func (Fn.func gf) fi ca ∧ HasBody Try.prog gf ∧ RangeP Try.prog gf (Array.toList fi) (Array.toList ca) (fun s ↦
 [Value.int IntKind.i64 s]) (fun (s : Int) (w' : World) (begin : World → (World → Prop) → Prop) (kn kr : World → Prop) (kx : Nat → World → Prop) ↦ begin w' fun w2 ↦ ∃ i, Ld Try.prog 3 w2
 (Addr.mk b 0 none) (Value.int IntKind.i64 i) ∧ br (decide (s = i)) (∃ i, Ld Try.prog 3 w2 (Addr.mk b 0 none) (Value.int IntKind.i64 i) ∧ inR IntKind.i64 (i + (1 : Int)) ∧ ∃ w1, St
 Try.prog 3 w2 (Addr.mk b 0 none) (Value.int IntKind.i64 (i + (1 : Int))) w1 ∧ kn w1) (kn w2)) w1_1 (fun D w' ↦ ∃ i, Ld Try.prog 3 w' (Addr.mk b 0 none) (Value.int IntKind.i64 i) ∧
 br (decide ((120 : Int) ≤ i)) (∃ w1, ShutD w' D w1 ∧ R (Ending.returned (Value.tuple #[Value.int IntKind.i64 0, Value.int IntKind.i64 111])) w1) (∃ i, Ld Try.prog 3 w' (Addr.mk b 0 none)
 (Value.int IntKind.i64 i) ∧ CallV Try.prog 31 [Value.pointer p, Value.int IntKind.i64 i, Value.string s] w' fun e w' ↦ ∃ i, e = Ending.returned (Value.int IntKind.i64 i) ∧ br (!decide (i =
 (0 : Int))) (∃ w1, ShutD w' D w1 ∧ R (Ending.returned (Value.tuple #[Value.int IntKind.i64 0, Value.int IntKind.i64 i])) w1) (∃ i, Ld Try.prog 3 w' (Addr.mk b 0 none) (Value.int IntKind.i64
 i) ∧ ∃ w1, ShutD w' D w1 ∧ R (Ending.returned (Value.tuple #[Value.int IntKind.i64 i, Value.int IntKind.i64 0])) w1))) (fun D w' ↦ False) fun (id D : Nat) (w' : World) ↦ False
theorem insert.eq (p : Option Addr) (s : ByteArray) (w : World) (R : Ending → World → Prop) : bodyV Try.prog insert.an Try.f23 [.pointer p, .string s] w R = insert.vc p s w R := by kernel_rfl
theorem insert.ok (p : Option Addr) (s : ByteArray) (w : World) (R : Ending → World → Prop) (h : insert.vc p s w R) : Calls Try.prog 23 #[.pointer p, .string s] w R :=
  calls_of_bodyV noNum (an := insert.an) (args := [.pointer p, .string s]) Try.func23 (by kernel_rfl) ((insert.eq p s w R).mpr h)

/-- (*incunable/slate.Page).Delete -/
def delete.an : An := { wraps := [], loops := [], joins := [], ranges := [] }
def delete.vc (p : Option Addr) (slot : Int) (w : World) (R : Ending → World → Prop) : Prop := CallV Try.prog 57 [Value.pointer p, Value.int IntKind.i64 slot] w fun e w' ↦ ∃ i i_1, e = Ending.returned (Value.tuple #[Value.int IntKind.i64 i, Value.int IntKind.i64 i_1]) ∧ br (decide (i =
 (0 : Int))) (R (Ending.returned (Value.int IntKind.i64 110)) w') (CallV Try.prog 58 [Value.pointer p, Value.int IntKind.i64 slot] w' fun e w' ↦ e = Ending.returned (Value.tuple #[]) ∧ R
 (Ending.returned (Value.int IntKind.i64 0)) w')
theorem delete.eq (p : Option Addr) (slot : Int) (w : World) (R : Ending → World → Prop) : bodyV Try.prog delete.an Try.f55 [.pointer p, .int .i64 slot] w R = delete.vc p slot w R := by kernel_rfl
theorem delete.ok (p : Option Addr) (slot : Int) (w : World) (R : Ending → World → Prop) (h : delete.vc p slot w R) : Calls Try.prog 55 #[.pointer p, .int .i64 slot] w R :=
  calls_of_bodyV noNum (an := delete.an) (args := [.pointer p, .int .i64 slot]) Try.func55 (by kernel_rfl) ((delete.eq p slot w R).mpr h)

/-- (*incunable/slate.Page).Stamp -/
def stamp.an : An := { wraps := [], loops := [(3, [(3, .inl .i64), (11, .inl .i64)])], joins := [], ranges := [] }
def stamp.vc (p : Option Addr) (w : World) (R : Ending → World → Prop) : Prop := onP p fun a ↦ ((0 : Int) ≤ (8 : Int) ∧ (8 : Int) ≤ (↑(4096 : Nat) : Int)) ∧ LoopP (fun (s : Int × Int) (w' : World) (next : Int × Int → World → Prop) ↦ br (decide (Prod.snd s < (↑(Int.toNat (8 : Int))
 : Int))) (((0 : Int) ≤ Prod.snd s ∧ Prod.snd s < (↑(Int.toNat (8 : Int)) : Int)) ∧ ∃ i, Ld Try.prog 5 w' (Addr.add a (Int.toNat (Prod.snd s) * 1)) (Value.int IntKind.u8 i) ∧ (0 : Int) ≤ (8 :
 Int) ∧ inR IntKind.i64 (Prod.fst s * (2 : Int) ^ min (Int.toNat (8 : Int)) (IntKind.bits IntKind.i64)) ∧ inR IntKind.i64 (Prod.snd s + (1 : Int)) ∧ next (Vc.bits BinOp.or IntKind.i64 (Prod.fst s * (2
 : Int) ^ min (Int.toNat (8 : Int)) (IntKind.bits IntKind.i64)) (IntKind.wrap IntKind.i64 i), Prod.snd s + (1 : Int)) w') (R (Ending.returned (Value.int IntKind.i64 (Prod.fst s))) w')) ((0 : Int), (0 :
 Int)) w
theorem stamp.eq (p : Option Addr) (w : World) (R : Ending → World → Prop) : bodyV Try.prog stamp.an Try.f13 [.pointer p] w R = stamp.vc p w R := by kernel_rfl
theorem stamp.ok (p : Option Addr) (w : World) (R : Ending → World → Prop) (h : stamp.vc p w R) : Calls Try.prog 13 #[.pointer p] w R :=
  calls_of_bodyV noNum (an := stamp.an) (args := [.pointer p]) Try.func13 (by kernel_rfl) ((stamp.eq p w R).mpr h)

/-- (*incunable/slate.Page).SetStamp -/
def setStamp.an : An := { wraps := [], loops := [(4, [(12, .inl .i64)])], joins := [], ranges := [] }
def setStamp.vc (p : Option Addr) (n : Int) (w : World) (R : Ending → World → Prop) : Prop := br (decide (n < (0 : Int))) (R (Ending.returned (Value.bool false)) w) (br (decide ((4611686018427387904 : Int) < n)) (R (Ending.returned (Value.bool false)) w) (LoopP (fun (s : Int) (w' : World) (next
 : Int → World → Prop) ↦ br (decide (s < (8 : Int))) (inR IntKind.i64 ((8 : Int) * s) ∧ inR IntKind.i64 ((56 : Int) - (8 : Int) * s) ∧ (0 : Int) ≤ (56 : Int) - (8 : Int) * s ∧ onP p fun a ↦ ((0 : Int)
 ≤ s ∧ s < (↑(4096 : Nat) : Int)) ∧ ∃ w1, St Try.prog 5 (World.drew w') (Addr.add a (Int.toNat s * 1)) (Value.int IntKind.u8 (IntKind.wrap IntKind.u8 (Int.fdiv n ((2 : Int) ^ min (Int.toNat
 ((56 : Int) - (8 : Int) * s)) (IntKind.bits IntKind.i64))))) w1 ∧ inR IntKind.i64 (s + (1 : Int)) ∧ next (s + (1 : Int)) w1) (R (Ending.returned (Value.bool true)) w')) (0 : Int) w))
theorem setStamp.eq (p : Option Addr) (n : Int) (w : World) (R : Ending → World → Prop) : bodyV Try.prog setStamp.an Try.f30 [.pointer p, .int .i64 n] w R = setStamp.vc p n w R := by kernel_rfl
theorem setStamp.ok (p : Option Addr) (n : Int) (w : World) (R : Ending → World → Prop) (h : setStamp.vc p n w R) : Calls Try.prog 30 #[.pointer p, .int .i64 n] w R :=
  calls_of_bodyV noNum (an := setStamp.an) (args := [.pointer p, .int .i64 n]) Try.func30 (by kernel_rfl) ((setStamp.eq p n w R).mpr h)

/-- (*incunable/slate.Page).Bytes -/
def bytes.an : An := { wraps := [], loops := [], joins := [], ranges := [] }
def bytes.vc (p : Option Addr) (w : World) (R : Ending → World → Prop) : Prop := onP p fun a ↦ ∃ (cs : List Value), Ld Try.prog 74 w a (Value.agg (List.toArray cs)) ∧ ∀ b w1, New w (Obj.cells (List.toArray (zl Try.prog 74)) 74) b w1 → ∃ w1_1, St
 Try.prog 74 w1 (Addr.mk b 0 none) (Value.agg (List.toArray cs)) w1_1 ∧ R (Ending.returned (Value.slice (some (Addr.mk b 0 none)) 4096 4096)) w1_1
theorem bytes.eq (p : Option Addr) (w : World) (R : Ending → World → Prop) : bodyV Try.prog bytes.an Try.f76 [.pointer p] w R = bytes.vc p w R := by kernel_rfl
theorem bytes.ok (p : Option Addr) (w : World) (R : Ending → World → Prop) (h : bytes.vc p w R) : Calls Try.prog 76 #[.pointer p] w R :=
  calls_of_bodyV noNum (an := bytes.an) (args := [.pointer p]) Try.func76 (by kernel_rfl) ((bytes.eq p w R).mpr h)

/-- (*incunable/slate.Page).Clone -/
def clone.an : An := { wraps := [], loops := [], joins := [], ranges := [] }
def clone.vc (p : Option Addr) (w : World) (R : Ending → World → Prop) : Prop := onP p fun a ↦ ∃ (cs : List Value), ∃ i i_1, Ld Try.prog 76 w a (Value.agg (List.toArray (cs ++ ([Value.int IntKind.i64 i] ++ ([Value.int IntKind.i64 i_1] ++ []))))) ∧ ∀ b w1, New w (Obj.cells
 (List.toArray (zl Try.prog 76)) 76) b w1 → ∃ w1_1, St Try.prog 76 w1 (Addr.mk b 0 none) (Value.agg (List.toArray (cs ++ ([Value.int IntKind.i64 i] ++ ([Value.int IntKind.i64 i_1]
 ++ []))))) w1_1 ∧ R (Ending.returned (Value.pointer (some (Addr.mk b 0 none)))) w1_1
theorem clone.eq (p : Option Addr) (w : World) (R : Ending → World → Prop) : bodyV Try.prog clone.an Try.f61 [.pointer p] w R = clone.vc p w R := by kernel_rfl
theorem clone.ok (p : Option Addr) (w : World) (R : Ending → World → Prop) (h : clone.vc p w R) : Calls Try.prog 61 #[.pointer p] w R :=
  calls_of_bodyV noNum (an := clone.an) (args := [.pointer p]) Try.func61 (by kernel_rfl) ((clone.eq p w R).mpr h)

/-- incunable/slate.Load -/
def load.an : An := { wraps := [], loops := [], joins := [], ranges := [(11, [(29, .inl .i64)])] }
def load.vc (ba : Option Addr) (bn : Nat) (bc : Nat) (w : World) (R : Ending → World → Prop) : Prop := ∀ b w1, New w (Obj.cells #[Value.slice ba bn bc] 70) b w1 → ∀ b_1 w1_1, New w1 (Obj.cells #[Value.pointer none] 31) b_1 w1_1 → ∀ b_2 w1, New w1_1 (Obj.cells #[Value.int IntKind.i64 0] 38) b_2 w1 → ∃ a
 l c, Ld Try.prog 70 w1 (Addr.mk b 0 none) (Value.slice a l c) ∧ br (!decide ((↑l : Int) = (4096 : Int))) (∃ w1_2, St Try.prog 31 w1 (Addr.mk b_1 0 none) (Value.pointer none) w1_2 ∧
 ∃ w1, St Try.prog 38 w1_2 (Addr.mk b_2 0 none) (Value.int IntKind.i64 112) w1 ∧ ∃ p, Ld Try.prog 31 w1 (Addr.mk b_1 0 none) (Value.pointer p) ∧ ∃ i, Ld Try.prog 38 w1
 (Addr.mk b_2 0 none) (Value.int IntKind.i64 i) ∧ R (Ending.returned (Value.tuple #[Value.pointer p, Value.int IntKind.i64 i])) w1) (∀ b_3 w1_2, New w1 (Obj.cells (List.toArray (zl Try.prog
 76)) 76) b_3 w1_2 → ∃ a l c, Ld Try.prog 70 (World.drew w1_2) (Addr.mk b 0 none) (Value.slice a l c) ∧ ∃ n w1, Cpy Try.prog #[70, 70] 3 (World.drew w1_2) (Value.slice (some
 (Addr.mk b_3 0 none)) 4096 4096) (Value.slice a l c) (Value.int IntKind.i64 n) w1 ∧ CallV Try.prog 62 [Value.pointer (some (Addr.mk b_3 0 none)), Value.int IntKind.i64 8] w1 fun e w' ↦ ∃ i,
 e = Ending.returned (Value.int IntKind.i64 i) ∧ ∃ w1, St Try.prog 3 w' (Addr.mk b_3 4096 none) (Value.int IntKind.i64 i) w1 ∧ CallV Try.prog 29 [] w1 fun e w' ↦ ∃ p, e =
 Ending.returned (Value.pointer p) ∧ ∀ b_4 w1, New w' (Obj.cells #[Value.pointer none] 31) b_4 w1 → ∃ w1_3, St Try.prog 31 w1 (Addr.mk b_4 0 none) (Value.pointer p) w1_3 ∧ ∃ i, Ld
 Try.prog 3 (World.drew w1_3) (Addr.mk b_3 4096 none) (Value.int IntKind.i64 i) ∧ br (decide ((120 : Int) < i)) (∃ w1, St Try.prog 31 (World.drew w1_3) (Addr.mk b_1 0 none)
 (Value.pointer none) w1 ∧ ∃ w1_4, St Try.prog 38 w1 (Addr.mk b_2 0 none) (Value.int IntKind.i64 112) w1_4 ∧ ∃ p, Ld Try.prog 31 w1_4 (Addr.mk b_1 0 none) (Value.pointer p) ∧ ∃ i,
 Ld Try.prog 38 w1_4 (Addr.mk b_2 0 none) (Value.int IntKind.i64 i) ∧ R (Ending.returned (Value.tuple #[Value.pointer p, Value.int IntKind.i64 i])) w1_4) (∃ p, Ld Try.prog 31
 (World.drew w1_3) (Addr.mk b_4 0 none) (Value.pointer p) ∧ CallV Try.prog 13 [Value.pointer (some (Addr.mk b_3 0 none))] (World.drew w1_3) fun e w' ↦ ∃ i, e = Ending.returned (Value.int
 IntKind.i64 i) ∧ Ld Try.prog 31 w' (Addr.mk b_4 0 none) (Value.pointer p) ∧ CallV Try.prog 30 [Value.pointer p, Value.int IntKind.i64 i] w' fun e w' ↦ ∃ b_5, e = Ending.returned
 (Value.bool b_5) ∧ br (!b_5) (∃ w1, St Try.prog 31 w' (Addr.mk b_1 0 none) (Value.pointer none) w1 ∧ ∃ w1_4, St Try.prog 38 w1 (Addr.mk b_2 0 none) (Value.int IntKind.i64 112) w1_4
 ∧ ∃ p, Ld Try.prog 31 w1_4 (Addr.mk b_1 0 none) (Value.pointer p) ∧ ∃ i, Ld Try.prog 38 w1_4 (Addr.mk b_2 0 none) (Value.int IntKind.i64 i) ∧ R (Ending.returned (Value.tuple
 #[Value.pointer p, Value.int IntKind.i64 i])) w1_4) (∃ (gf : FuncId), ∃ (fi : Array Value), ∃ (ca : Array Value), Value.func (Fn.func 49) #[Value.pointer (some (Addr.mk b_3 0 none))] #[] = Value.func
 (Fn.func gf) fi ca ∧ HasBody Try.prog gf ∧ RangeP Try.prog gf (Array.toList fi) (Array.toList ca) (fun s ↦ [Value.int IntKind.i64 s]) (fun (s : Int) (w' : World) (begin : World →
 (World → Prop) → Prop) (kn kr : World → Prop) (kx : Nat → World → Prop) ↦ begin w' fun w2 ↦ CallV Try.prog 57 [Value.pointer (some (Addr.mk b_3 0 none)), Value.int IntKind.i64 s] w2 fun e w'
 ↦ ∃ i i_1, e = Ending.returned (Value.tuple #[Value.int IntKind.i64 i, Value.int IntKind.i64 i_1]) ∧ br (decide (i < (10 : Int))) (∃ w1, St Try.prog 31 (World.drew w') (Addr.mk b_1 0 none)
 (Value.pointer none) w1 ∧ ∃ w1_4, St Try.prog 38 w1 (Addr.mk b_2 0 none) (Value.int IntKind.i64 112) w1_4 ∧ kr w1_4) (inR IntKind.i64 ((4096 : Int) - i) ∧ br (decide ((4096 : Int) - i <
 i_1)) (∃ w1, St Try.prog 31 (World.drew w') (Addr.mk b_1 0 none) (Value.pointer none) w1 ∧ ∃ w1_4, St Try.prog 38 w1 (Addr.mk b_2 0 none) (Value.int IntKind.i64 112) w1_4 ∧ kr
 w1_4) (∃ p, Ld Try.prog 31 (World.drew w') (Addr.mk b_4 0 none) (Value.pointer p) ∧ ∃ a l c, Ld Try.prog 70 (World.drew w') (Addr.mk b 0 none) (Value.slice a l c) ∧ inR IntKind.i64
 (i + i_1) ∧ ((0 : Int) ≤ i ∧ i ≤ i + i_1 ∧ i + i_1 ≤ (↑c : Int)) ∧ ∃ s_1, B2S Try.prog 70 9 (World.drew w') (Value.slice (slA a c (Int.toNat i) 1) (Int.toNat (i + i_1) - Int.toNat i) (c -
 Int.toNat i)) (Value.string s_1) ∧ CallV Try.prog 31 [Value.pointer p, Value.int IntKind.i64 s, Value.string s_1] (World.drew w') fun e w' ↦ ∃ i, e = Ending.returned (Value.int IntKind.i64
 i) ∧ br (!decide (i = (0 : Int))) (∃ w1, St Try.prog 31 w' (Addr.mk b_1 0 none) (Value.pointer none) w1 ∧ ∃ w1_4, St Try.prog 38 w1 (Addr.mk b_2 0 none) (Value.int IntKind.i64 112)
 w1_4 ∧ kr w1_4) (kn w')))) w' (fun D w' ↦ ∃ p, Ld Try.prog 31 w' (Addr.mk b_4 0 none) (Value.pointer p) ∧ ∃ w1, St Try.prog 31 w' (Addr.mk b_1 0 none) (Value.pointer p) w1 ∧ ∃
 w1_4, St Try.prog 38 w1 (Addr.mk b_2 0 none) (Value.int IntKind.i64 0) w1_4 ∧ ∃ w1, ShutD w1_4 D w1 ∧ ∃ p, Ld Try.prog 31 w1 (Addr.mk b_1 0 none) (Value.pointer p) ∧ ∃ i, Ld
 Try.prog 38 w1 (Addr.mk b_2 0 none) (Value.int IntKind.i64 i) ∧ R (Ending.returned (Value.tuple #[Value.pointer p, Value.int IntKind.i64 i])) w1) (fun D w' ↦ ∃ w1, ShutD w' D w1 ∧ ∃ p, Ld
 Try.prog 31 w1 (Addr.mk b_1 0 none) (Value.pointer p) ∧ ∃ i, Ld Try.prog 38 w1 (Addr.mk b_2 0 none) (Value.int IntKind.i64 i) ∧ R (Ending.returned (Value.tuple #[Value.pointer p,
 Value.int IntKind.i64 i])) w1) fun (id D : Nat) (w' : World) ↦ False)))
theorem load.eq (ba : Option Addr) (bn : Nat) (bc : Nat) (w : World) (R : Ending → World → Prop) : bodyV Try.prog load.an Try.f34 [.slice ba bn bc] w R = load.vc ba bn bc w R := by kernel_rfl
theorem load.ok (ba : Option Addr) (bn : Nat) (bc : Nat) (w : World) (R : Ending → World → Prop) (h : load.vc ba bn bc w R) : Calls Try.prog 34 #[.slice ba bn bc] w R :=
  calls_of_bodyV noNum (an := load.an) (args := [.slice ba bn bc]) Try.func34 (by kernel_rfl) ((load.eq ba bn bc w R).mpr h)

/-- incunable/incunableref11.Get -/
def rget.an : An := { wraps := [], loops := [(2, [(6, .inl .i64)])], joins := [], ranges := [] }
def rget.vc (p_La : Option Addr) (p_Ln : Nat) (p_Lc : Nat) (p_Stamp : Int) (slot : Int) (w : World) (R : Ending → World → Prop) : Prop := ∀ b w1, New w (Obj.cells #[Value.slice p_La p_Ln p_Lc, Value.int IntKind.i64 p_Stamp] 83) b w1 → LoopP (fun (s : Int) (w' : World) (next : Int → World → Prop) ↦ ∃ a l c, Ld Try.prog 81 w'
 (Addr.mk b 0 none) (Value.slice a l c) ∧ br (decide (s < (↑l : Int))) (∃ a l c, Ld Try.prog 81 w' (Addr.mk b 0 none) (Value.slice a l c) ∧ onP a fun a ↦ ((0 : Int) ≤ s ∧ s < (↑l : Int)) ∧ ∃
 i, Ld Try.prog 3 w' (Addr.add a (Int.toNat s * 2)) (Value.int IntKind.i64 i) ∧ br (decide (i = slot)) (∃ a l c, Ld Try.prog 81 w' (Addr.mk b 0 none) (Value.slice a l c) ∧ onP a fun
 a ↦ ((0 : Int) ≤ s ∧ s < (↑l : Int)) ∧ ∃ s_1, Ld Try.prog 9 w' (Addr.add (Addr.add a (Int.toNat s * 2)) 1) (Value.string s_1) ∧ R (Ending.returned (Value.tuple #[Value.string s_1, Value.bool
 true])) w') (inR IntKind.i64 (s + (1 : Int)) ∧ next (s + (1 : Int)) w')) (R (Ending.returned (Value.tuple #[Value.string (ByteArray.mk #[]), Value.bool false])) w')) (0 : Int) w1
theorem rget.eq (p_La : Option Addr) (p_Ln : Nat) (p_Lc : Nat) (p_Stamp : Int) (slot : Int) (w : World) (R : Ending → World → Prop) : bodyV Try.prog rget.an Try.f80 [.agg #[.slice p_La p_Ln p_Lc, .int .i64 p_Stamp], .int .i64 slot] w R = rget.vc p_La p_Ln p_Lc p_Stamp slot w R := by kernel_rfl
theorem rget.ok (p_La : Option Addr) (p_Ln : Nat) (p_Lc : Nat) (p_Stamp : Int) (slot : Int) (w : World) (R : Ending → World → Prop) (h : rget.vc p_La p_Ln p_Lc p_Stamp slot w R) : Calls Try.prog 80 #[.agg #[.slice p_La p_Ln p_Lc, .int .i64 p_Stamp], .int .i64 slot] w R :=
  calls_of_bodyV noNum (an := rget.an) (args := [.agg #[.slice p_La p_Ln p_Lc, .int .i64 p_Stamp], .int .i64 slot]) Try.func80 (by kernel_rfl) ((rget.eq p_La p_Ln p_Lc p_Stamp slot w R).mpr h)

/-- incunable/incunableref11.Room -/
def rroom.an : An := { wraps := [], loops := [(3, [(3, .inl .i64), (4, .inl .i64)])], joins := [], ranges := [] }
def rroom.vc (p_La : Option Addr) (p_Ln : Nat) (p_Lc : Nat) (p_Stamp : Int) (w : World) (R : Ending → World → Prop) : Prop := ∀ b w1, New w (Obj.cells #[Value.slice p_La p_Ln p_Lc, Value.int IntKind.i64 p_Stamp] 83) b w1 → LoopP (fun (s : Int × Int) (w' : World) (next : Int × Int → World → Prop) ↦ ∃ a l c, Ld
 Try.prog 81 w' (Addr.mk b 0 none) (Value.slice a l c) ∧ br (decide (Prod.snd s < (↑l : Int))) (∃ a l c, Ld Try.prog 81 w' (Addr.mk b 0 none) (Value.slice a l c) ∧ onP a fun a ↦ ((0
 : Int) ≤ Prod.snd s ∧ Prod.snd s < (↑l : Int)) ∧ ∃ s_1, Ld Try.prog 9 w' (Addr.add (Addr.add a (Int.toNat (Prod.snd s) * 2)) 1) (Value.string s_1) ∧ inR IntKind.i64 (Prod.fst s -
 (↑(ByteArray.size s_1) : Int)) ∧ inR IntKind.i64 (Prod.snd s + (1 : Int)) ∧ next (Prod.fst s - (↑(ByteArray.size s_1) : Int), Prod.snd s + (1 : Int)) w') (R (Ending.returned (Value.int IntKind.i64
 (Prod.fst s))) w')) ((3600 : Int), (0 : Int)) w1
theorem rroom.eq (p_La : Option Addr) (p_Ln : Nat) (p_Lc : Nat) (p_Stamp : Int) (w : World) (R : Ending → World → Prop) : bodyV Try.prog rroom.an Try.f66 [.agg #[.slice p_La p_Ln p_Lc, .int .i64 p_Stamp]] w R = rroom.vc p_La p_Ln p_Lc p_Stamp w R := by kernel_rfl
theorem rroom.ok (p_La : Option Addr) (p_Ln : Nat) (p_Lc : Nat) (p_Stamp : Int) (w : World) (R : Ending → World → Prop) (h : rroom.vc p_La p_Ln p_Lc p_Stamp w R) : Calls Try.prog 66 #[.agg #[.slice p_La p_Ln p_Lc, .int .i64 p_Stamp]] w R :=
  calls_of_bodyV noNum (an := rroom.an) (args := [.agg #[.slice p_La p_Ln p_Lc, .int .i64 p_Stamp]]) Try.func66 (by kernel_rfl) ((rroom.eq p_La p_Ln p_Lc p_Stamp w R).mpr h)

/-- incunable/incunableref11.without -/
def without.an : An := { wraps := [], loops := [(3, [(5, .inr 3), (6, .inl .i64)])], joins := [], ranges := [] }
def without.vc (la : Option Addr) (ln : Nat) (lc : Nat) (slot : Int) (w : World) (R : Ending → World → Prop) : Prop := LoopP (fun (s : (Option Addr × Nat × Nat) × Int) (w' : World) (next : (Option Addr × Nat × Nat) × Int → World → Prop) ↦ br (decide (Prod.snd s < (↑ln : Int))) (onP la fun a ↦ ((0 : Int) ≤ Prod.snd s ∧
 Prod.snd s < (↑ln : Int)) ∧ ∃ i, Ld Try.prog 3 w' (Addr.add a (Int.toNat (Prod.snd s) * 2)) (Value.int IntKind.i64 i) ∧ br (!decide (i = slot)) (onP la fun a ↦ ((0 : Int) ≤ Prod.snd s ∧
 Prod.snd s < (↑ln : Int)) ∧ ∃ i s_1, Ld Try.prog 131 w' (Addr.add a (Int.toNat (Prod.snd s) * 2)) (Value.agg #[Value.int IntKind.i64 i, Value.string s_1]) ∧ ∀ b w1, New w' (Obj.cells
 #[Value.int IntKind.i64 i, Value.string s_1] 131) b w1 → ∃ a n m w1_1, App Try.prog #[81, 81] 81 w1 (Value.slice (Prod.fst (Prod.fst s)) (Prod.fst (Prod.snd (Prod.fst s))) (Prod.snd
 (Prod.snd (Prod.fst s)))) (Value.slice (some (Addr.mk b 0 none)) 1 1) (Value.slice a n m) w1_1 ∧ inR IntKind.i64 (Prod.snd s + (1 : Int)) ∧ next ((a, n, m), Prod.snd s + (1 : Int)) w1_1) (inR
 IntKind.i64 (Prod.snd s + (1 : Int)) ∧ next ((Prod.fst (Prod.fst s), Prod.fst (Prod.snd (Prod.fst s)), Prod.snd (Prod.snd (Prod.fst s))), Prod.snd s + (1 : Int)) w')) (R (Ending.returned (Value.slice
 (Prod.fst (Prod.fst s)) (Prod.fst (Prod.snd (Prod.fst s))) (Prod.snd (Prod.snd (Prod.fst s))))) w')) ((none, 0, 0), (0 : Int)) w
theorem without.eq (la : Option Addr) (ln : Nat) (lc : Nat) (slot : Int) (w : World) (R : Ending → World → Prop) : bodyV Try.prog without.an Try.f65 [.slice la ln lc, .int .i64 slot] w R = without.vc la ln lc slot w R := by kernel_rfl
theorem without.ok (la : Option Addr) (ln : Nat) (lc : Nat) (slot : Int) (w : World) (R : Ending → World → Prop) (h : without.vc la ln lc slot w R) : Calls Try.prog 65 #[.slice la ln lc, .int .i64 slot] w R :=
  calls_of_bodyV noNum (an := without.an) (args := [.slice la ln lc, .int .i64 slot]) Try.func65 (by kernel_rfl) ((without.eq la ln lc slot w R).mpr h)

/-- incunable/incunableref11.with -/
def rwith.an : An := { wraps := [], loops := [(4, [(5, .inr 3), (6, .inr 0), (7, .inl .i64)])], joins := [(7, [(25, .inr 0)])], ranges := [] }
def rwith.vc (la : Option Addr) (ln : Nat) (lc : Nat) (r_Slot : Int) (r_S : ByteArray) (w : World) (R : Ending → World → Prop) : Prop := ∀ b w1, New w (Obj.cells #[Value.int IntKind.i64 r_Slot, Value.string r_S] 131) b w1 → LoopP (fun (s : (Option Addr × Nat × Nat) × Bool × Int) (w' : World) (next : (Option Addr × Nat × Nat) × Bool ×
 Int → World → Prop) ↦ br (decide (Prod.snd (Prod.snd s) < (↑ln : Int))) (JoinP (fun s_1 w' ↦ br s_1 (∃ i s_2, Ld Try.prog 131 w' (Addr.mk b 0 none) (Value.agg #[Value.int IntKind.i64 i,
 Value.string s_2]) ∧ ∀ b w1, New w' (Obj.cells #[Value.int IntKind.i64 i, Value.string s_2] 131) b w1 → ∃ a n m w1_1, App Try.prog #[81, 81] 81 w1 (Value.slice (Prod.fst (Prod.fst s))
 (Prod.fst (Prod.snd (Prod.fst s))) (Prod.snd (Prod.snd (Prod.fst s)))) (Value.slice (some (Addr.mk b 0 none)) 1 1) (Value.slice a n m) w1_1 ∧ onP la fun a_1 ↦ ((0 : Int) ≤ Prod.snd (Prod.snd s) ∧
 Prod.snd (Prod.snd s) < (↑ln : Int)) ∧ ∃ i s_3, Ld Try.prog 131 w1_1 (Addr.add a_1 (Int.toNat (Prod.snd (Prod.snd s)) * 2)) (Value.agg #[Value.int IntKind.i64 i, Value.string s_3]) ∧ ∀ b w1,
 New w1_1 (Obj.cells #[Value.int IntKind.i64 i, Value.string s_3] 131) b w1 → ∃ a_3 n_1 m_1 w1_2, App Try.prog #[81, 81] 81 w1 (Value.slice a n m) (Value.slice (some (Addr.mk b 0 none)) 1 1)
 (Value.slice a_3 n_1 m_1) w1_2 ∧ inR IntKind.i64 (Prod.snd (Prod.snd s) + (1 : Int)) ∧ next ((a_3, n_1, m_1), true, Prod.snd (Prod.snd s) + (1 : Int)) w1_2) (onP la fun a ↦ ((0 : Int) ≤ Prod.snd
 (Prod.snd s) ∧ Prod.snd (Prod.snd s) < (↑ln : Int)) ∧ ∃ i s_2, Ld Try.prog 131 w' (Addr.add a (Int.toNat (Prod.snd (Prod.snd s)) * 2)) (Value.agg #[Value.int IntKind.i64 i, Value.string
 s_2]) ∧ ∀ b w1, New w' (Obj.cells #[Value.int IntKind.i64 i, Value.string s_2] 131) b w1 → ∃ a n m w1_1, App Try.prog #[81, 81] 81 w1 (Value.slice (Prod.fst (Prod.fst s)) (Prod.fst (Prod.snd
 (Prod.fst s))) (Prod.snd (Prod.snd (Prod.fst s)))) (Value.slice (some (Addr.mk b 0 none)) 1 1) (Value.slice a n m) w1_1 ∧ inR IntKind.i64 (Prod.snd (Prod.snd s) + (1 : Int)) ∧ next ((a, n, m),
 Prod.fst (Prod.snd s), Prod.snd (Prod.snd s) + (1 : Int)) w1_1)) fun (J : Bool → World → Prop) ↦ br (!Prod.fst (Prod.snd s)) (onP la fun a ↦ ((0 : Int) ≤ Prod.snd (Prod.snd s) ∧ Prod.snd (Prod.snd s)
 < (↑ln : Int)) ∧ ∃ i, Ld Try.prog 3 (World.drew w') (Addr.add a (Int.toNat (Prod.snd (Prod.snd s)) * 2)) (Value.int IntKind.i64 i) ∧ ∃ i_1, Ld Try.prog 3 (World.drew w') (Addr.mk b
 0 none) (Value.int IntKind.i64 i_1) ∧ J (decide (i_1 < i)) (World.drew w')) (J false (World.drew w'))) (br (!Prod.fst (Prod.snd s)) (∃ i s_1, Ld Try.prog 131 w' (Addr.mk b 0 none) (Value.agg
 #[Value.int IntKind.i64 i, Value.string s_1]) ∧ ∀ b w1, New w' (Obj.cells #[Value.int IntKind.i64 i, Value.string s_1] 131) b w1 → ∃ a n m w1_1, App Try.prog #[81, 81] 81 w1 (Value.slice
 (Prod.fst (Prod.fst s)) (Prod.fst (Prod.snd (Prod.fst s))) (Prod.snd (Prod.snd (Prod.fst s)))) (Value.slice (some (Addr.mk b 0 none)) 1 1) (Value.slice a n m) w1_1 ∧ R (Ending.returned (Value.slice a
 n m)) w1_1) (R (Ending.returned (Value.slice (Prod.fst (Prod.fst s)) (Prod.fst (Prod.snd (Prod.fst s))) (Prod.snd (Prod.snd (Prod.fst s))))) w'))) ((none, 0, 0), false, (0 : Int)) w1
theorem rwith.eq (la : Option Addr) (ln : Nat) (lc : Nat) (r_Slot : Int) (r_S : ByteArray) (w : World) (R : Ending → World → Prop) : bodyV Try.prog rwith.an Try.f67 [.slice la ln lc, .agg #[.int .i64 r_Slot, .string r_S]] w R = rwith.vc la ln lc r_Slot r_S w R := by kernel_rfl
theorem rwith.ok (la : Option Addr) (ln : Nat) (lc : Nat) (r_Slot : Int) (r_S : ByteArray) (w : World) (R : Ending → World → Prop) (h : rwith.vc la ln lc r_Slot r_S w R) : Calls Try.prog 67 #[.slice la ln lc, .agg #[.int .i64 r_Slot, .string r_S]] w R :=
  calls_of_bodyV noNum (an := rwith.an) (args := [.slice la ln lc, .agg #[.int .i64 r_Slot, .string r_S]]) Try.func67 (by kernel_rfl) ((rwith.eq la ln lc r_Slot r_S w R).mpr h)

/-- incunable/incunableref11.Put -/
def rput.an : An := { wraps := [], loops := [], joins := [], ranges := [] }
def rput.vc (p_La : Option Addr) (p_Ln : Nat) (p_Lc : Nat) (p_Stamp : Int) (slot : Int) (s : ByteArray) (w : World) (R : Ending → World → Prop) : Prop := ∀ b w1, New w (Obj.cells #[Value.slice p_La p_Ln p_Lc, Value.int IntKind.i64 p_Stamp] 83) b w1 → ∀ b_1 w1_1, New w1 (Obj.cells #[Value.slice none 0 0, Value.int IntKind.i64 0] 83) b_1 w1_1 → br (decide
 (slot < (0 : Int))) (∃ a l c i, Ld Try.prog 83 w1_1 (Addr.mk b 0 none) (Value.agg #[Value.slice a l c, Value.int IntKind.i64 i]) ∧ ∃ w1, St Try.prog 83 w1_1 (Addr.mk b_1 0 none)
 (Value.agg #[Value.slice a l c, Value.int IntKind.i64 i]) w1 ∧ ∃ a l c i, Ld Try.prog 83 w1 (Addr.mk b_1 0 none) (Value.agg #[Value.slice a l c, Value.int IntKind.i64 i]) ∧ R
 (Ending.returned (Value.tuple #[Value.agg #[Value.slice a l c, Value.int IntKind.i64 i], Value.int IntKind.i64 110])) w1) (br (decide ((120 : Int) ≤ slot)) (∃ a l c i, Ld Try.prog 83 w1_1
 (Addr.mk b 0 none) (Value.agg #[Value.slice a l c, Value.int IntKind.i64 i]) ∧ ∃ w1, St Try.prog 83 w1_1 (Addr.mk b_1 0 none) (Value.agg #[Value.slice a l c, Value.int IntKind.i64 i]) w1 ∧ ∃
 a l c i, Ld Try.prog 83 w1 (Addr.mk b_1 0 none) (Value.agg #[Value.slice a l c, Value.int IntKind.i64 i]) ∧ R (Ending.returned (Value.tuple #[Value.agg #[Value.slice a l c, Value.int
 IntKind.i64 i], Value.int IntKind.i64 110])) w1) ((∃ a l c, Ld Try.prog 81 (World.drew w1_1) (Addr.mk b 0 none) (Value.slice a l c) ∧ ∃ i, Ld Try.prog 3 (World.drew w1_1) (Addr.mk
 b 1 none) (Value.int IntKind.i64 i) ∧ CallV Try.prog 65 [Value.slice a l c, Value.int IntKind.i64 slot] (World.drew w1_1) fun e w' ↦ ∃ a l c, e = Ending.returned (Value.slice a l c) ∧ Ld
 Try.prog 3 w' (Addr.mk b 1 none) (Value.int IntKind.i64 i) ∧ ∀ b_2 w1, New w' (Obj.cells #[Value.slice none 0 0, Value.int IntKind.i64 0] 83) b_2 w1 → Ld Try.prog 3 w1 (Addr.mk b 1
 none) (Value.int IntKind.i64 i) ∧ ∃ w1_2, St Try.prog 83 w1 (Addr.mk b_2 0 none) (Value.agg #[Value.slice a l c, Value.int IntKind.i64 i]) w1_2 ∧ ∃ a l c i, Ld Try.prog 83 w1_2
 (Addr.mk b_2 0 none) (Value.agg #[Value.slice a l c, Value.int IntKind.i64 i]) ∧ CallV Try.prog 66 [Value.agg #[Value.slice a l c, Value.int IntKind.i64 i]] w1_2 fun e w' ↦ ∃ i, e =
 Ending.returned (Value.int IntKind.i64 i) ∧ br (decide (i < (↑(ByteArray.size s) : Int))) (∃ a l c i, Ld Try.prog 83 w' (Addr.mk b 0 none) (Value.agg #[Value.slice a l c, Value.int
 IntKind.i64 i]) ∧ ∃ w1, St Try.prog 83 w' (Addr.mk b_1 0 none) (Value.agg #[Value.slice a l c, Value.int IntKind.i64 i]) w1 ∧ ∃ a l c i, Ld Try.prog 83 w1 (Addr.mk b_1 0 none)
 (Value.agg #[Value.slice a l c, Value.int IntKind.i64 i]) ∧ R (Ending.returned (Value.tuple #[Value.agg #[Value.slice a l c, Value.int IntKind.i64 i], Value.int IntKind.i64 111])) w1) (∃ a l c, Ld
 Try.prog 81 w' (Addr.mk b_2 0 none) (Value.slice a l c) ∧ CallV Try.prog 67 [Value.slice a l c, Value.agg #[Value.int IntKind.i64 slot, Value.string s]] w' fun e w' ↦ ∃ a l c, e =
 Ending.returned (Value.slice a l c) ∧ ∃ w1, St Try.prog 81 w' (Addr.mk b_2 0 none) (Value.slice a l c) w1 ∧ ∃ a l c i, Ld Try.prog 83 w1 (Addr.mk b_2 0 none) (Value.agg
 #[Value.slice a l c, Value.int IntKind.i64 i]) ∧ ∃ w1_3, St Try.prog 83 w1 (Addr.mk b_1 0 none) (Value.agg #[Value.slice a l c, Value.int IntKind.i64 i]) w1_3 ∧ ∃ a l c i, Ld
 Try.prog 83 w1_3 (Addr.mk b_1 0 none) (Value.agg #[Value.slice a l c, Value.int IntKind.i64 i]) ∧ R (Ending.returned (Value.tuple #[Value.agg #[Value.slice a l c, Value.int IntKind.i64 i],
 Value.int IntKind.i64 0])) w1_3)) ∧ ∃ a l c, Ld Try.prog 81 (World.drew w1_1) (Addr.mk b 0 none) (Value.slice a l c) ∧ ∃ i, Ld Try.prog 3 (World.drew w1_1) (Addr.mk b 1 none)
 (Value.int IntKind.i64 i) ∧ ∀ b_2 w1, New (World.drew w1_1) (Obj.cells #[Value.slice none 0 0, Value.int IntKind.i64 0] 83) b_2 w1 → Ld Try.prog 3 w1 (Addr.mk b 1 none) (Value.int
 IntKind.i64 i) ∧ Ld Try.prog 81 w1 (Addr.mk b 0 none) (Value.slice a l c) ∧ CallV Try.prog 65 [Value.slice a l c, Value.int IntKind.i64 slot] w1 fun e w' ↦ ∃ a l c, e =
 Ending.returned (Value.slice a l c) ∧ Ld Try.prog 3 w' (Addr.mk b 1 none) (Value.int IntKind.i64 i) ∧ ∃ w1, St Try.prog 83 w' (Addr.mk b_2 0 none) (Value.agg #[Value.slice a l c,
 Value.int IntKind.i64 i]) w1 ∧ ∃ a l c i, Ld Try.prog 83 w1 (Addr.mk b_2 0 none) (Value.agg #[Value.slice a l c, Value.int IntKind.i64 i]) ∧ CallV Try.prog 66 [Value.agg
 #[Value.slice a l c, Value.int IntKind.i64 i]] w1 fun e w' ↦ ∃ i, e = Ending.returned (Value.int IntKind.i64 i) ∧ br (decide (i < (↑(ByteArray.size s) : Int))) (∃ a l c i, Ld Try.prog 83 w'
 (Addr.mk b 0 none) (Value.agg #[Value.slice a l c, Value.int IntKind.i64 i]) ∧ ∃ w1, St Try.prog 83 w' (Addr.mk b_1 0 none) (Value.agg #[Value.slice a l c, Value.int IntKind.i64 i]) w1 ∧ ∃ a
 l c i, Ld Try.prog 83 w1 (Addr.mk b_1 0 none) (Value.agg #[Value.slice a l c, Value.int IntKind.i64 i]) ∧ R (Ending.returned (Value.tuple #[Value.agg #[Value.slice a l c, Value.int
 IntKind.i64 i], Value.int IntKind.i64 111])) w1) (∃ a l c, Ld Try.prog 81 w' (Addr.mk b_2 0 none) (Value.slice a l c) ∧ CallV Try.prog 67 [Value.slice a l c, Value.agg #[Value.int
 IntKind.i64 slot, Value.string s]] w' fun e w' ↦ ∃ a l c, e = Ending.returned (Value.slice a l c) ∧ ∃ w1, St Try.prog 81 w' (Addr.mk b_2 0 none) (Value.slice a l c) w1 ∧ ∃ a l c i, Ld
 Try.prog 83 w1 (Addr.mk b_2 0 none) (Value.agg #[Value.slice a l c, Value.int IntKind.i64 i]) ∧ ∃ w1_2, St Try.prog 83 w1 (Addr.mk b_1 0 none) (Value.agg #[Value.slice a l c,
 Value.int IntKind.i64 i]) w1_2 ∧ ∃ a l c i, Ld Try.prog 83 w1_2 (Addr.mk b_1 0 none) (Value.agg #[Value.slice a l c, Value.int IntKind.i64 i]) ∧ R (Ending.returned (Value.tuple #[Value.agg
 #[Value.slice a l c, Value.int IntKind.i64 i], Value.int IntKind.i64 0])) w1_2)))
theorem rput.eq (p_La : Option Addr) (p_Ln : Nat) (p_Lc : Nat) (p_Stamp : Int) (slot : Int) (s : ByteArray) (w : World) (R : Ending → World → Prop) : bodyV Try.prog rput.an Try.f40 [.agg #[.slice p_La p_Ln p_Lc, .int .i64 p_Stamp], .int .i64 slot, .string s] w R = rput.vc p_La p_Ln p_Lc p_Stamp slot s w R := by kernel_rfl
theorem rput.ok (p_La : Option Addr) (p_Ln : Nat) (p_Lc : Nat) (p_Stamp : Int) (slot : Int) (s : ByteArray) (w : World) (R : Ending → World → Prop) (h : rput.vc p_La p_Ln p_Lc p_Stamp slot s w R) : Calls Try.prog 40 #[.agg #[.slice p_La p_Ln p_Lc, .int .i64 p_Stamp], .int .i64 slot, .string s] w R :=
  calls_of_bodyV noNum (an := rput.an) (args := [.agg #[.slice p_La p_Ln p_Lc, .int .i64 p_Stamp], .int .i64 slot, .string s]) Try.func40 (by kernel_rfl) ((rput.eq p_La p_Ln p_Lc p_Stamp slot s w R).mpr h)

/-- incunable/incunableref11.Insert -/
def rinsert.an : An := { wraps := [], loops := [(2, [(7, .inl .i64)])], joins := [], ranges := [] }
def rinsert.vc (p_La : Option Addr) (p_Ln : Nat) (p_Lc : Nat) (p_Stamp : Int) (s : ByteArray) (w : World) (R : Ending → World → Prop) : Prop := ∀ b w1, New w (Obj.cells #[Value.slice p_La p_Ln p_Lc, Value.int IntKind.i64 p_Stamp] 83) b w1 → ∀ b_1 w1_1, New w1 (Obj.cells #[Value.slice none 0 0, Value.int IntKind.i64 0] 83) b_1 w1_1 → LoopP (fun
 (s_1 : Int) (w' : World) (next : Int → World → Prop) ↦ br (decide (s_1 < (120 : Int))) (∃ a l c i, Ld Try.prog 83 w' (Addr.mk b 0 none) (Value.agg #[Value.slice a l c, Value.int IntKind.i64
 i]) ∧ CallV Try.prog 80 [Value.agg #[Value.slice a l c, Value.int IntKind.i64 i], Value.int IntKind.i64 s_1] w' fun e w' ↦ ∃ s_2 b_2, e = Ending.returned (Value.tuple #[Value.string s_2,
 Value.bool b_2]) ∧ br (!b_2) (∃ a l c i, Ld Try.prog 83 w' (Addr.mk b 0 none) (Value.agg #[Value.slice a l c, Value.int IntKind.i64 i]) ∧ CallV Try.prog 40 [Value.agg #[Value.slice
 a l c, Value.int IntKind.i64 i], Value.int IntKind.i64 s_1, Value.string s] w' fun e w' ↦ ∃ a l c i i_1, e = Ending.returned (Value.tuple #[Value.agg #[Value.slice a l c, Value.int IntKind.i64 i],
 Value.int IntKind.i64 i_1]) ∧ ∀ b_3 w1, New w' (Obj.cells #[Value.slice none 0 0, Value.int IntKind.i64 0] 83) b_3 w1 → ∃ w1_2, St Try.prog 83 w1 (Addr.mk b_3 0 none) (Value.agg
 #[Value.slice a l c, Value.int IntKind.i64 i]) w1_2 ∧ br (!decide (i_1 = (0 : Int))) (∃ a l c i, Ld Try.prog 83 w1_2 (Addr.mk b 0 none) (Value.agg #[Value.slice a l c, Value.int IntKind.i64
 i]) ∧ ∃ w1, St Try.prog 83 w1_2 (Addr.mk b_1 0 none) (Value.agg #[Value.slice a l c, Value.int IntKind.i64 i]) w1 ∧ ∃ a l c i, Ld Try.prog 83 w1 (Addr.mk b_1 0 none) (Value.agg
 #[Value.slice a l c, Value.int IntKind.i64 i]) ∧ R (Ending.returned (Value.tuple #[Value.agg #[Value.slice a l c, Value.int IntKind.i64 i], Value.int IntKind.i64 0, Value.int IntKind.i64 i_1])) w1) (∃
 a l c i, Ld Try.prog 83 w1_2 (Addr.mk b_3 0 none) (Value.agg #[Value.slice a l c, Value.int IntKind.i64 i]) ∧ ∃ w1, St Try.prog 83 w1_2 (Addr.mk b_1 0 none) (Value.agg
 #[Value.slice a l c, Value.int IntKind.i64 i]) w1 ∧ ∃ a l c i, Ld Try.prog 83 w1 (Addr.mk b_1 0 none) (Value.agg #[Value.slice a l c, Value.int IntKind.i64 i]) ∧ R (Ending.returned
 (Value.tuple #[Value.agg #[Value.slice a l c, Value.int IntKind.i64 i], Value.int IntKind.i64 s_1, Value.int IntKind.i64 0])) w1)) (inR IntKind.i64 (s_1 + (1 : Int)) ∧ next (s_1 + (1 : Int)) w')) (∃ a
 l c i, Ld Try.prog 83 w' (Addr.mk b 0 none) (Value.agg #[Value.slice a l c, Value.int IntKind.i64 i]) ∧ ∃ w1, St Try.prog 83 w' (Addr.mk b_1 0 none) (Value.agg #[Value.slice a l c,
 Value.int IntKind.i64 i]) w1 ∧ ∃ a l c i, Ld Try.prog 83 w1 (Addr.mk b_1 0 none) (Value.agg #[Value.slice a l c, Value.int IntKind.i64 i]) ∧ R (Ending.returned (Value.tuple #[Value.agg
 #[Value.slice a l c, Value.int IntKind.i64 i], Value.int IntKind.i64 0, Value.int IntKind.i64 111])) w1)) (0 : Int) w1_1
theorem rinsert.eq (p_La : Option Addr) (p_Ln : Nat) (p_Lc : Nat) (p_Stamp : Int) (s : ByteArray) (w : World) (R : Ending → World → Prop) : bodyV Try.prog rinsert.an Try.f63 [.agg #[.slice p_La p_Ln p_Lc, .int .i64 p_Stamp], .string s] w R = rinsert.vc p_La p_Ln p_Lc p_Stamp s w R := by kernel_rfl
theorem rinsert.ok (p_La : Option Addr) (p_Ln : Nat) (p_Lc : Nat) (p_Stamp : Int) (s : ByteArray) (w : World) (R : Ending → World → Prop) (h : rinsert.vc p_La p_Ln p_Lc p_Stamp s w R) : Calls Try.prog 63 #[.agg #[.slice p_La p_Ln p_Lc, .int .i64 p_Stamp], .string s] w R :=
  calls_of_bodyV noNum (an := rinsert.an) (args := [.agg #[.slice p_La p_Ln p_Lc, .int .i64 p_Stamp], .string s]) Try.func63 (by kernel_rfl) ((rinsert.eq p_La p_Ln p_Lc p_Stamp s w R).mpr h)

/-- incunable/incunableref11.Delete -/
def rdelete.an : An := { wraps := [], loops := [], joins := [], ranges := [] }
def rdelete.vc (p_La : Option Addr) (p_Ln : Nat) (p_Lc : Nat) (p_Stamp : Int) (slot : Int) (w : World) (R : Ending → World → Prop) : Prop := ∀ b w1, New w (Obj.cells #[Value.slice p_La p_Ln p_Lc, Value.int IntKind.i64 p_Stamp] 83) b w1 → ∀ b_1 w1_1, New w1 (Obj.cells #[Value.slice none 0 0, Value.int IntKind.i64 0] 83) b_1 w1_1 → ∃ a l c i,
 Ld Try.prog 83 w1_1 (Addr.mk b 0 none) (Value.agg #[Value.slice a l c, Value.int IntKind.i64 i]) ∧ CallV Try.prog 80 [Value.agg #[Value.slice a l c, Value.int IntKind.i64 i],
 Value.int IntKind.i64 slot] w1_1 fun e w' ↦ ∃ s b_2, e = Ending.returned (Value.tuple #[Value.string s, Value.bool b_2]) ∧ br (!b_2) (∃ a l c i, Ld Try.prog 83 w' (Addr.mk b 0 none)
 (Value.agg #[Value.slice a l c, Value.int IntKind.i64 i]) ∧ ∃ w1, St Try.prog 83 w' (Addr.mk b_1 0 none) (Value.agg #[Value.slice a l c, Value.int IntKind.i64 i]) w1 ∧ ∃ a l c i, Ld
 Try.prog 83 w1 (Addr.mk b_1 0 none) (Value.agg #[Value.slice a l c, Value.int IntKind.i64 i]) ∧ R (Ending.returned (Value.tuple #[Value.agg #[Value.slice a l c, Value.int IntKind.i64 i],
 Value.int IntKind.i64 110])) w1) (∃ a l c, Ld Try.prog 81 w' (Addr.mk b 0 none) (Value.slice a l c) ∧ CallV Try.prog 65 [Value.slice a l c, Value.int IntKind.i64 slot] w' fun e w'
 ↦ ∃ a l c, e = Ending.returned (Value.slice a l c) ∧ ∃ w1, St Try.prog 81 w' (Addr.mk b 0 none) (Value.slice a l c) w1 ∧ ∃ a l c i, Ld Try.prog 83 w1 (Addr.mk b 0 none) (Value.agg
 #[Value.slice a l c, Value.int IntKind.i64 i]) ∧ ∃ w1_2, St Try.prog 83 w1 (Addr.mk b_1 0 none) (Value.agg #[Value.slice a l c, Value.int IntKind.i64 i]) w1_2 ∧ ∃ a l c i, Ld
 Try.prog 83 w1_2 (Addr.mk b_1 0 none) (Value.agg #[Value.slice a l c, Value.int IntKind.i64 i]) ∧ R (Ending.returned (Value.tuple #[Value.agg #[Value.slice a l c, Value.int IntKind.i64 i],
 Value.int IntKind.i64 0])) w1_2)
theorem rdelete.eq (p_La : Option Addr) (p_Ln : Nat) (p_Lc : Nat) (p_Stamp : Int) (slot : Int) (w : World) (R : Ending → World → Prop) : bodyV Try.prog rdelete.an Try.f64 [.agg #[.slice p_La p_Ln p_Lc, .int .i64 p_Stamp], .int .i64 slot] w R = rdelete.vc p_La p_Ln p_Lc p_Stamp slot w R := by kernel_rfl
theorem rdelete.ok (p_La : Option Addr) (p_Ln : Nat) (p_Lc : Nat) (p_Stamp : Int) (slot : Int) (w : World) (R : Ending → World → Prop) (h : rdelete.vc p_La p_Ln p_Lc p_Stamp slot w R) : Calls Try.prog 64 #[.agg #[.slice p_La p_Ln p_Lc, .int .i64 p_Stamp], .int .i64 slot] w R :=
  calls_of_bodyV noNum (an := rdelete.an) (args := [.agg #[.slice p_La p_Ln p_Lc, .int .i64 p_Stamp], .int .i64 slot]) Try.func64 (by kernel_rfl) ((rdelete.eq p_La p_Ln p_Lc p_Stamp slot w R).mpr h)

/-- incunable/incunableref11.Do -/
def rdo.an : An := { wraps := [], loops := [], joins := [], ranges := [] }
def rdo.vc (p_La : Option Addr) (p_Ln : Nat) (p_Lc : Nat) (p_Stamp : Int) (o_Kind : Int) (o_Slot : Int) (o_N : Int) (o_S : ByteArray) (w : World) (R : Ending → World → Prop) : Prop := ∀ b w1, New w (Obj.cells #[Value.slice p_La p_Ln p_Lc, Value.int IntKind.i64 p_Stamp] 83) b w1 → ∀ b_1 w1_1, New w1 (Obj.cells #[Value.int IntKind.i64 o_Kind, Value.int IntKind.i64 o_Slot, Value.int
 IntKind.i64 o_N, Value.string o_S] 28) b_1 w1_1 → ∀ b_2 w1, New w1_1 (Obj.cells #[Value.slice none 0 0, Value.int IntKind.i64 0] 83) b_2 w1 → ∃ i, Ld Try.prog 3 w1 (Addr.mk b_1 0 none)
 (Value.int IntKind.i64 i) ∧ br (decide (i = (0 : Int))) (∃ a l c i, Ld Try.prog 83 w1 (Addr.mk b 0 none) (Value.agg #[Value.slice a l c, Value.int IntKind.i64 i]) ∧ ∃ s, Ld
 Try.prog 9 w1 (Addr.mk b_1 3 none) (Value.string s) ∧ CallV Try.prog 63 [Value.agg #[Value.slice a l c, Value.int IntKind.i64 i], Value.string s] w1 fun e w' ↦ ∃ a l c i i_1 i_2, e
 = Ending.returned (Value.tuple #[Value.agg #[Value.slice a l c, Value.int IntKind.i64 i], Value.int IntKind.i64 i_1, Value.int IntKind.i64 i_2]) ∧ ∃ w1, St Try.prog 83 w' (Addr.mk b_2 0
 none) (Value.agg #[Value.slice a l c, Value.int IntKind.i64 i]) w1 ∧ ∃ a l c i, Ld Try.prog 83 w1 (Addr.mk b_2 0 none) (Value.agg #[Value.slice a l c, Value.int IntKind.i64 i]) ∧ R
 (Ending.returned (Value.tuple #[Value.agg #[Value.slice a l c, Value.int IntKind.i64 i], Value.int IntKind.i64 i_1, Value.int IntKind.i64 i_2])) w1) (br (decide (i = (1 : Int))) (∃ a l c i, Ld
 Try.prog 83 w1 (Addr.mk b 0 none) (Value.agg #[Value.slice a l c, Value.int IntKind.i64 i]) ∧ ∃ i_1, Ld Try.prog 3 w1 (Addr.mk b_1 1 none) (Value.int IntKind.i64 i_1) ∧ ∃ s, Ld
 Try.prog 9 w1 (Addr.mk b_1 3 none) (Value.string s) ∧ CallV Try.prog 40 [Value.agg #[Value.slice a l c, Value.int IntKind.i64 i], Value.int IntKind.i64 i_1, Value.string s] w1 fun
 e w' ↦ ∃ a l c i i_2, e = Ending.returned (Value.tuple #[Value.agg #[Value.slice a l c, Value.int IntKind.i64 i], Value.int IntKind.i64 i_2]) ∧ ∀ b w1, New w' (Obj.cells #[Value.slice none 0 0,
 Value.int IntKind.i64 0] 83) b w1 → ∃ w1_2, St Try.prog 83 w1 (Addr.mk b 0 none) (Value.agg #[Value.slice a l c, Value.int IntKind.i64 i]) w1_2 ∧ ∃ a l c i, Ld Try.prog 83 w1_2
 (Addr.mk b 0 none) (Value.agg #[Value.slice a l c, Value.int IntKind.i64 i]) ∧ ∃ w1, St Try.prog 83 w1_2 (Addr.mk b_2 0 none) (Value.agg #[Value.slice a l c, Value.int IntKind.i64 i]) w1 ∧ ∃
 a l c i, Ld Try.prog 83 w1 (Addr.mk b_2 0 none) (Value.agg #[Value.slice a l c, Value.int IntKind.i64 i]) ∧ R (Ending.returned (Value.tuple #[Value.agg #[Value.slice a l c, Value.int
 IntKind.i64 i], Value.int IntKind.i64 0, Value.int IntKind.i64 i_2])) w1) (br (decide (i = (2 : Int))) (∃ a l c i, Ld Try.prog 83 w1 (Addr.mk b 0 none) (Value.agg #[Value.slice a l c,
 Value.int IntKind.i64 i]) ∧ ∃ i_1, Ld Try.prog 3 w1 (Addr.mk b_1 1 none) (Value.int IntKind.i64 i_1) ∧ CallV Try.prog 64 [Value.agg #[Value.slice a l c, Value.int IntKind.i64 i],
 Value.int IntKind.i64 i_1] w1 fun e w' ↦ ∃ a l c i i_2, e = Ending.returned (Value.tuple #[Value.agg #[Value.slice a l c, Value.int IntKind.i64 i], Value.int IntKind.i64 i_2]) ∧ ∀ b w1, New w'
 (Obj.cells #[Value.slice none 0 0, Value.int IntKind.i64 0] 83) b w1 → ∃ w1_2, St Try.prog 83 w1 (Addr.mk b 0 none) (Value.agg #[Value.slice a l c, Value.int IntKind.i64 i]) w1_2 ∧ ∃ a l c
 i, Ld Try.prog 83 w1_2 (Addr.mk b 0 none) (Value.agg #[Value.slice a l c, Value.int IntKind.i64 i]) ∧ ∃ w1, St Try.prog 83 w1_2 (Addr.mk b_2 0 none) (Value.agg #[Value.slice a l c,
 Value.int IntKind.i64 i]) w1 ∧ ∃ a l c i, Ld Try.prog 83 w1 (Addr.mk b_2 0 none) (Value.agg #[Value.slice a l c, Value.int IntKind.i64 i]) ∧ R (Ending.returned (Value.tuple #[Value.agg
 #[Value.slice a l c, Value.int IntKind.i64 i], Value.int IntKind.i64 0, Value.int IntKind.i64 i_2])) w1) (br (decide (i = (3 : Int))) (∃ i, Ld Try.prog 3 w1 (Addr.mk b_1 2 none) (Value.int
 IntKind.i64 i) ∧ br (decide (i < (0 : Int))) (∃ a l c i, Ld Try.prog 83 w1 (Addr.mk b 0 none) (Value.agg #[Value.slice a l c, Value.int IntKind.i64 i]) ∧ ∃ w1_2, St Try.prog 83 w1
 (Addr.mk b_2 0 none) (Value.agg #[Value.slice a l c, Value.int IntKind.i64 i]) w1_2 ∧ ∃ a l c i, Ld Try.prog 83 w1_2 (Addr.mk b_2 0 none) (Value.agg #[Value.slice a l c, Value.int
 IntKind.i64 i]) ∧ R (Ending.returned (Value.tuple #[Value.agg #[Value.slice a l c, Value.int IntKind.i64 i], Value.int IntKind.i64 0, Value.int IntKind.i64 1])) w1_2) (∃ i, Ld Try.prog 3 w1
 (Addr.mk b_1 2 none) (Value.int IntKind.i64 i) ∧ br (decide ((4611686018427387904 : Int) < i)) (∃ a l c i, Ld Try.prog 83 w1 (Addr.mk b 0 none) (Value.agg #[Value.slice a l c, Value.int
 IntKind.i64 i]) ∧ ∃ w1_2, St Try.prog 83 w1 (Addr.mk b_2 0 none) (Value.agg #[Value.slice a l c, Value.int IntKind.i64 i]) w1_2 ∧ ∃ a l c i, Ld Try.prog 83 w1_2 (Addr.mk b_2 0
 none) (Value.agg #[Value.slice a l c, Value.int IntKind.i64 i]) ∧ R (Ending.returned (Value.tuple #[Value.agg #[Value.slice a l c, Value.int IntKind.i64 i], Value.int IntKind.i64 0, Value.int
 IntKind.i64 1])) w1_2) (∃ i, Ld Try.prog 3 w1 (Addr.mk b_1 2 none) (Value.int IntKind.i64 i) ∧ ∃ w1_2, St Try.prog 3 w1 (Addr.mk b 1 none) (Value.int IntKind.i64 i) w1_2 ∧ ∃ a l c
 i, Ld Try.prog 83 w1_2 (Addr.mk b 0 none) (Value.agg #[Value.slice a l c, Value.int IntKind.i64 i]) ∧ ∃ w1, St Try.prog 83 w1_2 (Addr.mk b_2 0 none) (Value.agg #[Value.slice a l c,
 Value.int IntKind.i64 i]) w1 ∧ ∃ a l c i, Ld Try.prog 83 w1 (Addr.mk b_2 0 none) (Value.agg #[Value.slice a l c, Value.int IntKind.i64 i]) ∧ R (Ending.returned (Value.tuple #[Value.agg
 #[Value.slice a l c, Value.int IntKind.i64 i], Value.int IntKind.i64 0, Value.int IntKind.i64 0])) w1))) (∃ a l c i, Ld Try.prog 83 w1 (Addr.mk b 0 none) (Value.agg #[Value.slice a l c,
 Value.int IntKind.i64 i]) ∧ ∃ w1_2, St Try.prog 83 w1 (Addr.mk b_2 0 none) (Value.agg #[Value.slice a l c, Value.int IntKind.i64 i]) w1_2 ∧ ∃ a l c i, Ld Try.prog 83 w1_2 (Addr.mk
 b_2 0 none) (Value.agg #[Value.slice a l c, Value.int IntKind.i64 i]) ∧ R (Ending.returned (Value.tuple #[Value.agg #[Value.slice a l c, Value.int IntKind.i64 i], Value.int IntKind.i64 0, Value.int
 IntKind.i64 0])) w1_2))))
theorem rdo.eq (p_La : Option Addr) (p_Ln : Nat) (p_Lc : Nat) (p_Stamp : Int) (o_Kind : Int) (o_Slot : Int) (o_N : Int) (o_S : ByteArray) (w : World) (R : Ending → World → Prop) : bodyV Try.prog rdo.an Try.f38 [.agg #[.slice p_La p_Ln p_Lc, .int .i64 p_Stamp], .agg #[.int .i64 o_Kind, .int .i64 o_Slot, .int .i64 o_N, .string o_S]] w R = rdo.vc p_La p_Ln p_Lc p_Stamp o_Kind o_Slot o_N o_S w R := by kernel_rfl
theorem rdo.ok (p_La : Option Addr) (p_Ln : Nat) (p_Lc : Nat) (p_Stamp : Int) (o_Kind : Int) (o_Slot : Int) (o_N : Int) (o_S : ByteArray) (w : World) (R : Ending → World → Prop) (h : rdo.vc p_La p_Ln p_Lc p_Stamp o_Kind o_Slot o_N o_S w R) : Calls Try.prog 38 #[.agg #[.slice p_La p_Ln p_Lc, .int .i64 p_Stamp], .agg #[.int .i64 o_Kind, .int .i64 o_Slot, .int .i64 o_N, .string o_S]] w R :=
  calls_of_bodyV noNum (an := rdo.an) (args := [.agg #[.slice p_La p_Ln p_Lc, .int .i64 p_Stamp], .agg #[.int .i64 o_Kind, .int .i64 o_Slot, .int .i64 o_N, .string o_S]]) Try.func38 (by kernel_rfl) ((rdo.eq p_La p_Ln p_Lc p_Stamp o_Kind o_Slot o_N o_S w R).mpr h)

/-- incunable/frames.Open -/
def fopen.an : An := { wraps := [], loops := [], joins := [], ranges := [] }
def fopen.vc (d : Option Addr) (name : ByteArray) (many : Int) (kv : Option Addr) (w : World) (R : Ending → World → Prop) : Prop := br (decide (many < (4 : Int))) (R (Ending.returned (Value.tuple #[Value.pointer none, Value.int IntKind.i64 1])) w) (br (decide ((64 : Int) < many)) (R (Ending.returned (Value.tuple #[Value.pointer
 none, Value.int IntKind.i64 1])) w) (∃ b, Eqv Try.prog BinOp.eql 89 (Operand.tmp 18) (Operand.const Value.nilFunc) w (Value.func (Fn.func 43) #[] #[Value.pointer kv]) Value.nilFunc b ∧ br b
 (R (Ending.returned (Value.tuple #[Value.pointer none, Value.int IntKind.i64 1])) w) (CallV Try.prog 17 [Value.pointer d, Value.string name] w fun e w' ↦ ∃ i, e = Ending.returned (Value.int
 IntKind.i64 i) ∧ br (decide (i < (0 : Int))) (CallV Try.prog 68 [Value.pointer d, Value.string name] w' fun e w' ↦ ∃ i, e = Ending.returned (Value.int IntKind.i64 i) ∧ br (!decide (i = (0 :
 Int))) (R (Ending.returned (Value.tuple #[Value.pointer none, Value.int IntKind.i64 i])) w') (CallV Try.prog 17 [Value.pointer d, Value.string name] w' fun e w' ↦ ∃ i, e = Ending.returned
 (Value.int IntKind.i64 i) ∧ inR IntKind.i64 (i + (8 : Int)) ∧ inR IntKind.i64 (i + (8 : Int) - (1 : Int)) ∧ (8 : Int) ≠ (0 : Int) ∧ inR IntKind.i64 (Int.tdiv (i + (8 : Int) - (1 : Int)) (8 : Int)) ∧ ∀
 b w1, New w' (Obj.cells #[Value.pointer d, Value.string name, Value.int IntKind.i64 many, Value.func (Fn.func 43) #[] #[Value.pointer kv], Value.slice none 0 0, Value.int IntKind.i64 0, Value.int
 IntKind.i64 (Int.tdiv (i + (8 : Int) - (1 : Int)) (8 : Int))] 92) b w1 → R (Ending.returned (Value.tuple #[Value.pointer (some (Addr.mk b 0 none)), Value.int IntKind.i64 0])) w1)) (CallV
 Try.prog 17 [Value.pointer d, Value.string name] w' fun e w' ↦ ∃ i, e = Ending.returned (Value.int IntKind.i64 i) ∧ inR IntKind.i64 (i + (8 : Int)) ∧ inR IntKind.i64 (i + (8 : Int) - (1 :
 Int)) ∧ (8 : Int) ≠ (0 : Int) ∧ inR IntKind.i64 (Int.tdiv (i + (8 : Int) - (1 : Int)) (8 : Int)) ∧ ∀ b w1, New w' (Obj.cells #[Value.pointer d, Value.string name, Value.int IntKind.i64 many,
 Value.func (Fn.func 43) #[] #[Value.pointer kv], Value.slice none 0 0, Value.int IntKind.i64 0, Value.int IntKind.i64 (Int.tdiv (i + (8 : Int) - (1 : Int)) (8 : Int))] 92) b w1 → R (Ending.returned
 (Value.tuple #[Value.pointer (some (Addr.mk b 0 none)), Value.int IntKind.i64 0])) w1))))
theorem fopen.eq (d : Option Addr) (name : ByteArray) (many : Int) (kv : Option Addr) (w : World) (R : Ending → World → Prop) : bodyV Try.prog fopen.an Try.f42 [.pointer d, .string name, .int .i64 many, (.func (.func 43) #[] #[.pointer kv])] w R = fopen.vc d name many kv w R := by kernel_rfl
theorem fopen.ok (d : Option Addr) (name : ByteArray) (many : Int) (kv : Option Addr) (w : World) (R : Ending → World → Prop) (h : fopen.vc d name many kv w R) : Calls Try.prog 42 #[.pointer d, .string name, .int .i64 many, (.func (.func 43) #[] #[.pointer kv])] w R :=
  calls_of_bodyV noNum (an := fopen.an) (args := [.pointer d, .string name, .int .i64 many, (.func (.func 43) #[] #[.pointer kv])]) Try.func42 (by kernel_rfl) ((fopen.eq d name many kv w R).mpr h)

/-- (*incunable/frames.Pool).find -/
def ffind.an : An := { wraps := [], loops := [(2, [(12, .inl .i64)])], joins := [], ranges := [] }
def ffind.vc (p : Option Addr) (n : Int) (w : World) (R : Ending → World → Prop) : Prop := onP p fun a ↦ ∃ a_1 l c, Ld Try.prog 90 w (Addr.add a 4) (Value.slice a_1 l c) ∧ LoopP (fun (s : Int) (w' : World) (next : Int → World → Prop) ↦ br (decide (s < (↑l : Int))) (onP a_1 fun a ↦
 ((0 : Int) ≤ s ∧ s < (↑l : Int)) ∧ ∃ p, Ld Try.prog 107 w' (Addr.add a (Int.toNat s * 1)) (Value.pointer p) ∧ onP p fun a ↦ ∃ i, Ld Try.prog 3 w' a (Value.int IntKind.i64 i) ∧ br
 (decide (i = n)) (R (Ending.returned (Value.pointer p)) w') (inR IntKind.i64 (s + (1 : Int)) ∧ next (s + (1 : Int)) w')) (R (Ending.returned (Value.pointer none)) w')) (0 : Int) w
theorem ffind.eq (p : Option Addr) (n : Int) (w : World) (R : Ending → World → Prop) : bodyV Try.prog ffind.an Try.f46 [.pointer p, .int .i64 n] w R = ffind.vc p n w R := by kernel_rfl
theorem ffind.ok (p : Option Addr) (n : Int) (w : World) (R : Ending → World → Prop) (h : ffind.vc p n w R) : Calls Try.prog 46 #[.pointer p, .int .i64 n] w R :=
  calls_of_bodyV noNum (an := ffind.an) (args := [.pointer p, .int .i64 n]) Try.func46 (by kernel_rfl) ((ffind.eq p n w R).mpr h)

/-- (*incunable/frames.Pool).numbers -/
def numbers.an : An := { wraps := [], loops := [(3, [(5, .inr 3), (13, .inl .i64)])], joins := [], ranges := [] }
def numbers.vc (p : Option Addr) (is_ : Value) (w : World) (R : Ending → World → Prop) : Prop := onP p fun a ↦ ∃ a_1 l c, Ld Try.prog 90 w (Addr.add a 4) (Value.slice a_1 l c) ∧ LoopP (fun (s : (Option Addr × Nat × Nat) × Int) (w' : World) (next : (Option Addr × Nat × Nat) × Int → World
 → Prop) ↦ br (decide (Prod.snd s < (↑l : Int))) (onP a_1 fun a ↦ ((0 : Int) ≤ Prod.snd s ∧ Prod.snd s < (↑l : Int)) ∧ ∃ p, Ld Try.prog 107 w' (Addr.add a (Int.toNat (Prod.snd s) * 1))
 (Value.pointer p) ∧ CallX Try.prog is_ [Value.pointer p] w' fun e w' ↦ ∃ b, e = Ending.returned (Value.bool b) ∧ br b (onP p fun a ↦ ∃ i, Ld Try.prog 3 w' a (Value.int IntKind.i64
 i) ∧ ∀ b w1, New w' (Obj.cells #[Value.int IntKind.i64 i] 3) b w1 → ∃ a n m w1_1, App Try.prog #[34, 34] 34 w1 (Value.slice (Prod.fst (Prod.fst s)) (Prod.fst (Prod.snd (Prod.fst s)))
 (Prod.snd (Prod.snd (Prod.fst s)))) (Value.slice (some (Addr.mk b 0 none)) 1 1) (Value.slice a n m) w1_1 ∧ inR IntKind.i64 (Prod.snd s + (1 : Int)) ∧ next ((a, n, m), Prod.snd s + (1 : Int)) w1_1)
 (inR IntKind.i64 (Prod.snd s + (1 : Int)) ∧ next ((Prod.fst (Prod.fst s), Prod.fst (Prod.snd (Prod.fst s)), Prod.snd (Prod.snd (Prod.fst s))), Prod.snd s + (1 : Int)) w')) (CallV Try.prog 73
 [Value.slice (Prod.fst (Prod.fst s)) (Prod.fst (Prod.snd (Prod.fst s))) (Prod.snd (Prod.snd (Prod.fst s)))] w' fun e w' ↦ e = Ending.returned (Value.tuple #[]) ∧ R (Ending.returned (Value.slice
 (Prod.fst (Prod.fst s)) (Prod.fst (Prod.snd (Prod.fst s))) (Prod.snd (Prod.snd (Prod.fst s))))) w')) ((none, 0, 0), (0 : Int)) w
theorem numbers.eq (p : Option Addr) (is_ : Value) (w : World) (R : Ending → World → Prop) : bodyV Try.prog numbers.an Try.f50 [.pointer p, is_] w R = numbers.vc p is_ w R := by kernel_rfl
theorem numbers.ok (p : Option Addr) (is_ : Value) (w : World) (R : Ending → World → Prop) (h : numbers.vc p is_ w R) : Calls Try.prog 50 #[.pointer p, is_] w R :=
  calls_of_bodyV noNum (an := numbers.an) (args := [.pointer p, is_]) Try.func50 (by kernel_rfl) ((numbers.eq p is_ w R).mpr h)

/-- (*incunable/frames.Pool).Held -/
def held.an : An := { wraps := [], loops := [], joins := [], ranges := [] }
def held.vc (p : Option Addr) (w : World) (R : Ending → World → Prop) : Prop := CallV Try.prog 50 [Value.pointer p, Value.func (Fn.func 71) #[] #[]] w fun e w' ↦ ∃ a l c, e = Ending.returned (Value.slice a l c) ∧ R (Ending.returned (Value.slice a l c)) w'
theorem held.eq (p : Option Addr) (w : World) (R : Ending → World → Prop) : bodyV Try.prog held.an Try.f45 [.pointer p] w R = held.vc p w R := by kernel_rfl
theorem held.ok (p : Option Addr) (w : World) (R : Ending → World → Prop) (h : held.vc p w R) : Calls Try.prog 45 #[.pointer p] w R :=
  calls_of_bodyV noNum (an := held.an) (args := [.pointer p]) Try.func45 (by kernel_rfl) ((held.eq p w R).mpr h)

/-- (*incunable/frames.Pool).Held$1 -/
def heldC.an : An := { wraps := [], loops := [], joins := [], ranges := [] }
def heldC.vc (x0 : Option Addr) (w : World) (R : Ending → World → Prop) : Prop := R (Ending.returned (Value.bool true)) w
theorem heldC.eq (x0 : Option Addr) (w : World) (R : Ending → World → Prop) : bodyV Try.prog heldC.an Try.f71 [.pointer x0] w R = heldC.vc x0 w R := by kernel_rfl
theorem heldC.ok (x0 : Option Addr) (w : World) (R : Ending → World → Prop) (h : heldC.vc x0 w R) : Calls Try.prog 71 #[.pointer x0] w R :=
  calls_of_bodyV noNum (an := heldC.an) (args := [.pointer x0]) Try.func71 (by kernel_rfl) ((heldC.eq x0 w R).mpr h)

/-- (*incunable/frames.Pool).Dirty -/
def dirty.an : An := { wraps := [], loops := [], joins := [], ranges := [] }
def dirty.vc (p : Option Addr) (w : World) (R : Ending → World → Prop) : Prop := CallV Try.prog 50 [Value.pointer p, Value.func (Fn.func 51) #[] #[]] w fun e w' ↦ ∃ a l c, e = Ending.returned (Value.slice a l c) ∧ R (Ending.returned (Value.slice a l c)) w'
theorem dirty.eq (p : Option Addr) (w : World) (R : Ending → World → Prop) : bodyV Try.prog dirty.an Try.f25 [.pointer p] w R = dirty.vc p w R := by kernel_rfl
theorem dirty.ok (p : Option Addr) (w : World) (R : Ending → World → Prop) (h : dirty.vc p w R) : Calls Try.prog 25 #[.pointer p] w R :=
  calls_of_bodyV noNum (an := dirty.an) (args := [.pointer p]) Try.func25 (by kernel_rfl) ((dirty.eq p w R).mpr h)

/-- (*incunable/frames.Pool).Dirty$1 -/
def dirtyC.an : An := { wraps := [], loops := [], joins := [], ranges := [] }
def dirtyC.vc (f : Option Addr) (w : World) (R : Ending → World → Prop) : Prop := onP f fun a ↦ ∃ b, Ld Try.prog 4 w (Addr.add a 3) (Value.bool b) ∧ R (Ending.returned (Value.bool b)) w
theorem dirtyC.eq (f : Option Addr) (w : World) (R : Ending → World → Prop) : bodyV Try.prog dirtyC.an Try.f51 [.pointer f] w R = dirtyC.vc f w R := by kernel_rfl
theorem dirtyC.ok (f : Option Addr) (w : World) (R : Ending → World → Prop) (h : dirtyC.vc f w R) : Calls Try.prog 51 #[.pointer f] w R :=
  calls_of_bodyV noNum (an := dirtyC.an) (args := [.pointer f]) Try.func51 (by kernel_rfl) ((dirtyC.eq f w R).mpr h)

/-- (*incunable/frames.Pool).Pages -/
def fpages.an : An := { wraps := [], loops := [], joins := [], ranges := [] }
def fpages.vc (p : Option Addr) (w : World) (R : Ending → World → Prop) : Prop := onP p fun a ↦ ∃ i, Ld Try.prog 3 w (Addr.add a 6) (Value.int IntKind.i64 i) ∧ R (Ending.returned (Value.int IntKind.i64 i)) w
theorem fpages.eq (p : Option Addr) (w : World) (R : Ending → World → Prop) : bodyV Try.prog fpages.an Try.f16 [.pointer p] w R = fpages.vc p w R := by kernel_rfl
theorem fpages.ok (p : Option Addr) (w : World) (R : Ending → World → Prop) (h : fpages.vc p w R) : Calls Try.prog 16 #[.pointer p] w R :=
  calls_of_bodyV noNum (an := fpages.an) (args := [.pointer p]) Try.func16 (by kernel_rfl) ((fpages.eq p w R).mpr h)

/-- (*incunable/frames.Pool).write -/
def fwrite.an : An := { wraps := [], loops := [(4, [(7, .inl .i64)]), (9, [(47, .inl .i64)])], joins := [(2, [(5, .inr 2)])], ranges := [] }
def fwrite.vc (p : Option Addr) (f : Option Addr) (w : World) (R : Ending → World → Prop) : Prop := ∀ b w1, New w (Obj.cells #[Value.pointer p] 33) b w1 → JoinP (fun s w' ↦ ∃ p, Ld Try.prog 33 (World.drew w') (Addr.mk b 0 none) (Value.pointer p) ∧ onP p fun a ↦ ∃ p, Ld Try.prog 32
 (World.drew w') a (Value.pointer p) ∧ ∃ p_1, Ld Try.prog 33 (World.drew w') (Addr.mk b 0 none) (Value.pointer p_1) ∧ onP p_1 fun a ↦ ∃ s_1, Ld Try.prog 9 (World.drew w') (Addr.add
 a 1) (Value.string s_1) ∧ CallV Try.prog 17 [Value.pointer p, Value.string s_1] (World.drew w') fun e w' ↦ ∃ i, e = Ending.returned (Value.int IntKind.i64 i) ∧ LoopP (fun (s_2 : Int) (w' :
 World) (next : Int → World → Prop) ↦ onP f fun a ↦ ∃ i, Ld Try.prog 3 w' a (Value.int IntKind.i64 i) ∧ inR IntKind.i64 (i * (8 : Int)) ∧ br (decide (s_2 < i * (8 : Int))) (CallV
 Try.prog 74 [Value.int IntKind.i64 s_2, Value.slice none 0 0, Value.pointer s, Value.pointer (some (Addr.mk b 0 none))] w' fun e w' ↦ e = Ending.returned (Value.tuple #[]) ∧ inR IntKind.i64
 (s_2 + (1 : Int)) ∧ next (s_2 + (1 : Int)) w') (onP f fun a ↦ ∃ p, Ld Try.prog 31 w' (Addr.add a 1) (Value.pointer p) ∧ CallV Try.prog 76 [Value.pointer p] w' fun e w' ↦ ∃ a l c, e
 = Ending.returned (Value.slice a l c) ∧ LoopP (fun (s_3 : Int) (w' : World) (next : Int → World → Prop) ↦ br (decide (s_3 < (8 : Int))) (onP f fun a_1 ↦ ∃ i, Ld Try.prog 3 (World.drew w')
 a_1 (Value.int IntKind.i64 i) ∧ inR IntKind.i64 (i * (8 : Int)) ∧ inR IntKind.i64 (i * (8 : Int) + s_3) ∧ inR IntKind.i64 (s_3 * (512 : Int)) ∧ inR IntKind.i64 (s_3 + (1 : Int)) ∧ inR IntKind.i64
 ((s_3 + (1 : Int)) * (512 : Int)) ∧ ((0 : Int) ≤ s_3 * (512 : Int) ∧ s_3 * (512 : Int) ≤ (s_3 + (1 : Int)) * (512 : Int) ∧ (s_3 + (1 : Int)) * (512 : Int) ≤ (↑c : Int)) ∧ CallV Try.prog 74
 [Value.int IntKind.i64 (i * (8 : Int) + s_3), Value.slice (slA a c (Int.toNat (s_3 * (512 : Int))) 1) (Int.toNat ((s_3 + (1 : Int)) * (512 : Int)) - Int.toNat (s_3 * (512 : Int))) (c - Int.toNat (s_3
 * (512 : Int))), Value.pointer s, Value.pointer (some (Addr.mk b 0 none))] (World.drew w') fun e w' ↦ e = Ending.returned (Value.tuple #[]) ∧ inR IntKind.i64 (s_3 + (1 : Int)) ∧ next (s_3 + (1 : Int))
 w') (∃ i, (onP s fun a ↦ Ld Try.prog 38 w' a (Value.int IntKind.i64 i)) ∧ br (decide (i = (0 : Int))) (onP f fun a ↦ ∃ w1, St Try.prog 4 w' (Addr.add a 3) (Value.bool false) w1 ∧ ∃
 i, (onP s fun a ↦ Ld Try.prog 38 w1 a (Value.int IntKind.i64 i)) ∧ R (Ending.returned (Value.int IntKind.i64 i)) w1) (∃ i, (onP s fun a ↦ Ld Try.prog 38 w' a (Value.int IntKind.i64
 i)) ∧ R (Ending.returned (Value.int IntKind.i64 i)) w'))) (0 : Int) w')) i w') fun (J : Option Addr → World → Prop) ↦ (∃ p, Ld Try.prog 33 (World.drew w1) (Addr.mk b 0 none) (Value.pointer
 p) ∧ onP p fun a ↦ ∃ v, Ld Try.prog 89 (World.drew w1) (Addr.add a 3) v ∧ onP f fun a_1 ↦ ∃ p_1, Ld Try.prog 31 (World.drew w1) (Addr.add a_1 1) (Value.pointer p_1) ∧ CallV
 Try.prog 13 [Value.pointer p_1] (World.drew w1) fun e w' ↦ ∃ i, e = Ending.returned (Value.int IntKind.i64 i) ∧ Ld Try.prog 89 w' (Addr.add a 3) v ∧ Ld Try.prog 33 w'
 (Addr.mk b 0 none) (Value.pointer p) ∧ CallX Try.prog v [Value.int IntKind.i64 i] w' fun e w' ↦ ∃ i, e = Ending.returned (Value.int IntKind.i64 i) ∧ ∀ b w1, New w' (Obj.cells #[Value.int
 IntKind.i64 0] 38) b w1 → ∃ w1_1, St Try.prog 38 w1 (Addr.mk b 0 none) (Value.int IntKind.i64 i) w1_1 ∧ J (some (Addr.mk b 0 none)) w1_1) ∧ (∃ p, Ld Try.prog 33 (World.drew w1)
 (Addr.mk b 0 none) (Value.pointer p) ∧ onP p fun a ↦ ∃ v, Ld Try.prog 89 (World.drew w1) (Addr.add a 3) v ∧ onP f fun a_1 ↦ ∃ p_1, Ld Try.prog 31 (World.drew w1) (Addr.add a_1 1)
 (Value.pointer p_1) ∧ CallV Try.prog 13 [Value.pointer p_1] (World.drew w1) fun e w' ↦ ∃ i, e = Ending.returned (Value.int IntKind.i64 i) ∧ Ld Try.prog 89 w' (Addr.add a 3) v ∧ Ld
 Try.prog 33 w' (Addr.mk b 0 none) (Value.pointer p) ∧ ∀ b_1 w1, New w' (Obj.cells #[Value.int IntKind.i64 0] 38) b_1 w1 → Ld Try.prog 89 w1 (Addr.add a 3) v ∧ Ld Try.prog
 33 w1 (Addr.mk b 0 none) (Value.pointer p) ∧ CallX Try.prog v [Value.int IntKind.i64 i] w1 fun e w' ↦ ∃ i, e = Ending.returned (Value.int IntKind.i64 i) ∧ ∃ w1, St Try.prog 38 w'
 (Addr.mk b_1 0 none) (Value.int IntKind.i64 i) w1 ∧ J (some (Addr.mk b_1 0 none)) w1) ∧ ∃ p, Ld Try.prog 33 (World.drew w1) (Addr.mk b 0 none) (Value.pointer p) ∧ onP p fun a ↦ ∃ v, Ld
 Try.prog 89 (World.drew w1) (Addr.add a 3) v ∧ onP f fun a_1 ↦ ∃ p_1, Ld Try.prog 31 (World.drew w1) (Addr.add a_1 1) (Value.pointer p_1) ∧ ∀ b_1 w1_1, New (World.drew w1)
 (Obj.cells #[Value.int IntKind.i64 0] 38) b_1 w1_1 → Ld Try.prog 31 w1_1 (Addr.add a_1 1) (Value.pointer p_1) ∧ Ld Try.prog 89 w1_1 (Addr.add a 3) v ∧ Ld Try.prog 33 w1_1
 (Addr.mk b 0 none) (Value.pointer p) ∧ CallV Try.prog 13 [Value.pointer p_1] w1_1 fun e w' ↦ ∃ i, e = Ending.returned (Value.int IntKind.i64 i) ∧ Ld Try.prog 89 w' (Addr.add a 3) v
 ∧ Ld Try.prog 33 w' (Addr.mk b 0 none) (Value.pointer p) ∧ CallX Try.prog v [Value.int IntKind.i64 i] w' fun e w' ↦ ∃ i, e = Ending.returned (Value.int IntKind.i64 i) ∧ ∃ w1, St
 Try.prog 38 w' (Addr.mk b_1 0 none) (Value.int IntKind.i64 i) w1 ∧ J (some (Addr.mk b_1 0 none)) w1
theorem fwrite.eq (p : Option Addr) (f : Option Addr) (w : World) (R : Ending → World → Prop) : bodyV Try.prog fwrite.an Try.f53 [.pointer p, .pointer f] w R = fwrite.vc p f w R := by kernel_rfl
theorem fwrite.ok (p : Option Addr) (f : Option Addr) (w : World) (R : Ending → World → Prop) (h : fwrite.vc p f w R) : Calls Try.prog 53 #[.pointer p, .pointer f] w R :=
  calls_of_bodyV noNum (an := fwrite.an) (args := [.pointer p, .pointer f]) Try.func53 (by kernel_rfl) ((fwrite.eq p f w R).mpr h)

/-- (*incunable/frames.Pool).write$1 -/
def fwriteC.an : An := { wraps := [], loops := [], joins := [], ranges := [] }
def fwriteC.vc (n : Int) (ba : Option Addr) (bn : Nat) (bc : Nat) (free0 : Option Addr) (free1 : Option Addr) (w : World) (R : Ending → World → Prop) : Prop := ∃ i, (onP free0 fun a ↦ Ld Try.prog 38 w a (Value.int IntKind.i64 i)) ∧ br (decide (i = (0 : Int))) (∃ p, (onP free1 fun a ↦ Ld Try.prog 33 (World.drew w) a (Value.pointer p)) ∧ onP
 p fun a ↦ ∃ p, Ld Try.prog 32 (World.drew w) a (Value.pointer p) ∧ ∃ p_1, (onP free1 fun a ↦ Ld Try.prog 33 (World.drew w) a (Value.pointer p_1)) ∧ onP p_1 fun a ↦ ∃ s, Ld
 Try.prog 9 (World.drew w) (Addr.add a 1) (Value.string s) ∧ CallV Try.prog 75 [Value.pointer p, Value.string s, Value.int IntKind.i64 n, Value.slice ba bn bc] (World.drew w) fun e
 w' ↦ ∃ i, e = Ending.returned (Value.int IntKind.i64 i) ∧ onP free0 fun a ↦ ∃ w1, St Try.prog 38 w' a (Value.int IntKind.i64 i) w1 ∧ R (Ending.returned (Value.tuple #[])) w1) (R
 (Ending.returned (Value.tuple #[])) w)
theorem fwriteC.eq (n : Int) (ba : Option Addr) (bn : Nat) (bc : Nat) (free0 : Option Addr) (free1 : Option Addr) (w : World) (R : Ending → World → Prop) : bodyV Try.prog fwriteC.an Try.f74 [.int .i64 n, .slice ba bn bc, (.pointer free0), (.pointer free1)] w R = fwriteC.vc n ba bn bc free0 free1 w R := by kernel_rfl
theorem fwriteC.ok (n : Int) (ba : Option Addr) (bn : Nat) (bc : Nat) (free0 : Option Addr) (free1 : Option Addr) (w : World) (R : Ending → World → Prop) (h : fwriteC.vc n ba bn bc free0 free1 w R) : Calls Try.prog 74 #[.int .i64 n, .slice ba bn bc, (.pointer free0), (.pointer free1)] w R :=
  calls_of_bodyV noNum (an := fwriteC.an) (args := [.int .i64 n, .slice ba bn bc, (.pointer free0), (.pointer free1)]) Try.func74 (by kernel_rfl) ((fwriteC.eq n ba bn bc free0 free1 w R).mpr h)

/-- (*incunable/frames.Pool).free -/
def free.an : An := { wraps := [], loops := [(6, [(4, .inl .i64), (41, .inl .i64)])], joins := [], ranges := [] }
def free.vc (p : Option Addr) (w : World) (R : Ending → World → Prop) : Prop := onP p fun a ↦ ∃ a_1 l c, Ld Try.prog 90 (World.drew w) (Addr.add a 4) (Value.slice a_1 l c) ∧ onP p fun a ↦ ∃ i, Ld Try.prog 3 (World.drew w) (Addr.add a 2) (Value.int IntKind.i64
 i) ∧ br (decide ((↑l : Int) < i)) (onP p fun a ↦ ∃ a_2 l c, Ld Try.prog 90 (World.drew w) (Addr.add a 4) (Value.slice a_2 l c) ∧ ∀ b w1, New (World.drew w) (Obj.cells #[Value.int IntKind.i64
 (-1 : Int), Value.pointer none, Value.int IntKind.i64 0, Value.bool false, Value.bool false] 112) b w1 → ∀ b_1 w1_1, New w1 (Obj.cells #[Value.pointer (some (Addr.mk b 0 none))] 107) b_1 w1_1 → ∃ a n
 m w1, App Try.prog #[90, 90] 90 w1_1 (Value.slice a_2 l c) (Value.slice (some (Addr.mk b_1 0 none)) 1 1) (Value.slice a n m) w1 ∧ onP p fun a_3 ↦ ∃ w1_2, St Try.prog 90 w1
 (Addr.add a_3 4) (Value.slice a n m) w1_2 ∧ onP p fun a ↦ ∃ a_4 l c, Ld Try.prog 90 w1_2 (Addr.add a 4) (Value.slice a_4 l c) ∧ inR IntKind.i64 ((↑l : Int) - (1 : Int)) ∧ R (Ending.returned
 (Value.tuple #[Value.int IntKind.i64 ((↑l : Int) - (1 : Int)), Value.int IntKind.i64 0])) w1_2) (onP p fun a ↦ ∃ a_2 l c, Ld Try.prog 90 (World.drew w) (Addr.add a 4) (Value.slice a_2 l c) ∧
 inR IntKind.i64 ((2 : Int) * (↑l : Int)) ∧ LoopP (fun (s : Int × Int) (w' : World) (next : Int × Int → World → Prop) ↦ br (decide (Prod.snd s < (2 : Int) * (↑l : Int))) (onP p fun a ↦ ∃ a_3 l c, Ld
 Try.prog 90 (World.drew w') (Addr.add a 4) (Value.slice a_3 l c) ∧ onP p fun a ↦ ∃ i, Ld Try.prog 3 (World.drew w') (Addr.add a 5) (Value.int IntKind.i64 i) ∧ onP a_3 fun a ↦ ((0 :
 Int) ≤ i ∧ i < (↑l : Int)) ∧ ∃ p_1, Ld Try.prog 107 (World.drew w') (Addr.add a (Int.toNat i * 1)) (Value.pointer p_1) ∧ onP p fun a ↦ ∃ i, Ld Try.prog 3 (World.drew w') (Addr.add
 a 5) (Value.int IntKind.i64 i) ∧ onP p fun a ↦ ∃ i_1, Ld Try.prog 3 (World.drew (World.drew w')) (Addr.add a 5) (Value.int IntKind.i64 i_1) ∧ inR IntKind.i64 (i_1 + (1 : Int)) ∧ onP p fun a
 ↦ ∃ a_4 l c, Ld Try.prog 90 (World.drew (World.drew w')) (Addr.add a 4) (Value.slice a_4 l c) ∧ (↑l : Int) ≠ (0 : Int) ∧ onP p fun a ↦ ∃ w1, St Try.prog 3 (World.drew (World.drew
 w')) (Addr.add a 5) (Value.int IntKind.i64 (Int.tmod (i_1 + (1 : Int)) (↑l : Int))) w1 ∧ onP p_1 fun a ↦ ∃ i_2, Ld Try.prog 3 w1 (Addr.add a 2) (Value.int IntKind.i64 i_2) ∧ br (decide ((0 :
 Int) < i_2)) (inR IntKind.i64 (Prod.snd s + (1 : Int)) ∧ next (Prod.fst s, Prod.snd s + (1 : Int)) w1) (onP p_1 fun a ↦ ∃ b, Ld Try.prog 4 w1 (Addr.add a 4) (Value.bool b) ∧ br b (onP p_1
 fun a ↦ ∃ w1_1, St Try.prog 4 w1 (Addr.add a 4) (Value.bool false) w1_1 ∧ inR IntKind.i64 (Prod.snd s + (1 : Int)) ∧ next (Prod.fst s, Prod.snd s + (1 : Int)) w1_1) (br (decide (i < (0 :
 Int))) (R (Ending.returned (Value.tuple #[Value.int IntKind.i64 0, Value.int IntKind.i64 120])) w1) (onP p fun a ↦ ∃ a_5 l c, Ld Try.prog 90 w1 (Addr.add a 4) (Value.slice a_5 l c) ∧ onP a_5
 fun a ↦ ((0 : Int) ≤ i ∧ i < (↑l : Int)) ∧ ∃ p_2, Ld Try.prog 107 w1 (Addr.add a (Int.toNat i * 1)) (Value.pointer p_2) ∧ onP p_2 fun a ↦ ∃ b, Ld Try.prog 4 w1 (Addr.add a 3)
 (Value.bool b) ∧ br b (onP p fun a ↦ ∃ a_6 l c, Ld Try.prog 90 w1 (Addr.add a 4) (Value.slice a_6 l c) ∧ onP a_6 fun a ↦ ((0 : Int) ≤ i ∧ i < (↑l : Int)) ∧ ∃ p_3, Ld Try.prog 107
 w1 (Addr.add a (Int.toNat i * 1)) (Value.pointer p_3) ∧ CallV Try.prog 53 [Value.pointer p, Value.pointer p_3] w1 fun e w' ↦ ∃ i_3, e = Ending.returned (Value.int IntKind.i64 i_3) ∧ br
 (!decide (i_3 = (0 : Int))) (R (Ending.returned (Value.tuple #[Value.int IntKind.i64 0, Value.int IntKind.i64 i_3])) w') (R (Ending.returned (Value.tuple #[Value.int IntKind.i64 i, Value.int
 IntKind.i64 0])) w')) (R (Ending.returned (Value.tuple #[Value.int IntKind.i64 i, Value.int IntKind.i64 0])) w1))))) (br (decide (Prod.fst s < (0 : Int))) (R (Ending.returned (Value.tuple #[Value.int
 IntKind.i64 0, Value.int IntKind.i64 120])) w') (onP p fun a ↦ ∃ a_3 l c, Ld Try.prog 90 w' (Addr.add a 4) (Value.slice a_3 l c) ∧ onP a_3 fun a ↦ ((0 : Int) ≤ Prod.fst s ∧ Prod.fst s < (↑l
 : Int)) ∧ ∃ p_1, Ld Try.prog 107 w' (Addr.add a (Int.toNat (Prod.fst s) * 1)) (Value.pointer p_1) ∧ onP p_1 fun a ↦ ∃ b, Ld Try.prog 4 w' (Addr.add a 3) (Value.bool b) ∧ br b (onP
 p fun a ↦ ∃ a_4 l c, Ld Try.prog 90 w' (Addr.add a 4) (Value.slice a_4 l c) ∧ onP a_4 fun a ↦ ((0 : Int) ≤ Prod.fst s ∧ Prod.fst s < (↑l : Int)) ∧ ∃ p_2, Ld Try.prog 107 w'
 (Addr.add a (Int.toNat (Prod.fst s) * 1)) (Value.pointer p_2) ∧ CallV Try.prog 53 [Value.pointer p, Value.pointer p_2] w' fun e w' ↦ ∃ i, e = Ending.returned (Value.int IntKind.i64 i) ∧ br
 (!decide (i = (0 : Int))) (R (Ending.returned (Value.tuple #[Value.int IntKind.i64 0, Value.int IntKind.i64 i])) w') (R (Ending.returned (Value.tuple #[Value.int IntKind.i64 (Prod.fst s), Value.int
 IntKind.i64 0])) w')) (R (Ending.returned (Value.tuple #[Value.int IntKind.i64 (Prod.fst s), Value.int IntKind.i64 0])) w')))) ((-1 : Int), (0 : Int)) (World.drew w))
theorem free.eq (p : Option Addr) (w : World) (R : Ending → World → Prop) : bodyV Try.prog free.an Try.f72 [.pointer p] w R = free.vc p w R := by kernel_rfl
theorem free.ok (p : Option Addr) (w : World) (R : Ending → World → Prop) (h : free.vc p w R) : Calls Try.prog 72 #[.pointer p] w R :=
  calls_of_bodyV noNum (an := free.an) (args := [.pointer p]) Try.func72 (by kernel_rfl) ((free.eq p w R).mpr h)

/-- (*incunable/frames.Pool).read -/
def fread.an : An := { wraps := [], loops := [(3, [(6, .inr 3), (10, .inl .i64)])], joins := [], ranges := [] }
def fread.vc (p : Option Addr) (n : Int) (w : World) (R : Ending → World → Prop) : Prop := LoopP (fun (s : (Option Addr × Nat × Nat) × Int) (w' : World) (next : (Option Addr × Nat × Nat) × Int → World → Prop) ↦ br (decide (Prod.snd s < (8 : Int))) (onP p fun a ↦ ∃ p_1, Ld Try.prog
 32 (World.drew w') a (Value.pointer p_1) ∧ onP p fun a ↦ ∃ s_1, Ld Try.prog 9 (World.drew w') (Addr.add a 1) (Value.string s_1) ∧ inR IntKind.i64 (n * (8 : Int)) ∧ inR IntKind.i64 (n * (8 :
 Int) + Prod.snd s) ∧ CallV Try.prog 33 [Value.pointer p_1, Value.string s_1, Value.int IntKind.i64 (n * (8 : Int) + Prod.snd s)] (World.drew w') fun e w' ↦ ∃ a l c i, e = Ending.returned
 (Value.tuple #[Value.slice a l c, Value.int IntKind.i64 i]) ∧ br (decide (i = (0 : Int))) (∃ a_1 n m w1, App Try.prog #[70, 70] 70 w' (Value.slice (Prod.fst (Prod.fst s)) (Prod.fst (Prod.snd
 (Prod.fst s))) (Prod.snd (Prod.snd (Prod.fst s)))) (Value.slice a l c) (Value.slice a_1 n m) w1 ∧ inR IntKind.i64 (Prod.snd s + (1 : Int)) ∧ next ((a_1, n, m), Prod.snd s + (1 : Int)) w1) (br (decide
 (i = (91 : Int))) (∃ a n m w1, App Try.prog #[70, 3] 70 w' (Value.slice (Prod.fst (Prod.fst s)) (Prod.fst (Prod.snd (Prod.fst s))) (Prod.snd (Prod.snd (Prod.fst s)))) (Value.int IntKind.i64
 512) (Value.slice a n m) w1 ∧ inR IntKind.i64 (Prod.snd s + (1 : Int)) ∧ next ((a, n, m), Prod.snd s + (1 : Int)) w1) (R (Ending.returned (Value.tuple #[Value.pointer none, Value.int IntKind.i64 i]))
 w'))) (CallV Try.prog 34 [Value.slice (Prod.fst (Prod.fst s)) (Prod.fst (Prod.snd (Prod.fst s))) (Prod.snd (Prod.snd (Prod.fst s)))] w' fun e w' ↦ ∃ p i, e = Ending.returned (Value.tuple
 #[Value.pointer p, Value.int IntKind.i64 i]) ∧ R (Ending.returned (Value.tuple #[Value.pointer p, Value.int IntKind.i64 i])) w')) ((none, 0, 0), (0 : Int)) w
theorem fread.eq (p : Option Addr) (n : Int) (w : World) (R : Ending → World → Prop) : bodyV Try.prog fread.an Try.f47 [.pointer p, .int .i64 n] w R = fread.vc p n w R := by kernel_rfl
theorem fread.ok (p : Option Addr) (n : Int) (w : World) (R : Ending → World → Prop) (h : fread.vc p n w R) : Calls Try.prog 47 #[.pointer p, .int .i64 n] w R :=
  calls_of_bodyV noNum (an := fread.an) (args := [.pointer p, .int .i64 n]) Try.func47 (by kernel_rfl) ((fread.eq p n w R).mpr h)

/-- (*incunable/frames.Pool).hold -/
def hold.an : An := { wraps := [], loops := [], joins := [], ranges := [] }
def hold.vc (p : Option Addr) (n : Int) (page : Option Addr) (w : World) (R : Ending → World → Prop) : Prop := CallV Try.prog 72 [Value.pointer p] w fun e w' ↦ ∃ i i_1, e = Ending.returned (Value.tuple #[Value.int IntKind.i64 i, Value.int IntKind.i64 i_1]) ∧ br (!decide (i_1 = (0 : Int))) (R
 (Ending.returned (Value.tuple #[Value.pointer none, Value.int IntKind.i64 i_1])) w') (onP p fun a ↦ ∃ a_1 l c, Ld Try.prog 90 w' (Addr.add a 4) (Value.slice a_1 l c) ∧ ∀ b w1, New w'
 (Obj.cells #[Value.int IntKind.i64 n, Value.pointer page, Value.int IntKind.i64 0, Value.bool false, Value.bool true] 112) b w1 → onP a_1 fun a ↦ ((0 : Int) ≤ i ∧ i < (↑l : Int)) ∧ ∃ w1_1, St
 Try.prog 107 w1 (Addr.add a (Int.toNat i * 1)) (Value.pointer (some (Addr.mk b 0 none))) w1_1 ∧ onP p fun a ↦ ∃ i_2, Ld Try.prog 3 w1_1 (Addr.add a 6) (Value.int IntKind.i64 i_2) ∧
 inR IntKind.i64 (n + (1 : Int)) ∧ onP p fun a ↦ ∃ w1, St Try.prog 3 w1_1 (Addr.add a 6) (Value.int IntKind.i64 (max i_2 (n + (1 : Int)))) w1 ∧ onP p fun a ↦ ∃ a_2 l c, Ld Try.prog
 90 w1 (Addr.add a 4) (Value.slice a_2 l c) ∧ onP a_2 fun a ↦ ((0 : Int) ≤ i ∧ i < (↑l : Int)) ∧ ∃ p, Ld Try.prog 107 w1 (Addr.add a (Int.toNat i * 1)) (Value.pointer p) ∧ R (Ending.returned
 (Value.tuple #[Value.pointer p, Value.int IntKind.i64 0])) w1)
theorem hold.eq (p : Option Addr) (n : Int) (page : Option Addr) (w : World) (R : Ending → World → Prop) : bodyV Try.prog hold.an Try.f48 [.pointer p, .int .i64 n, .pointer page] w R = hold.vc p n page w R := by kernel_rfl
theorem hold.ok (p : Option Addr) (n : Int) (page : Option Addr) (w : World) (R : Ending → World → Prop) (h : hold.vc p n page w R) : Calls Try.prog 48 #[.pointer p, .int .i64 n, .pointer page] w R :=
  calls_of_bodyV noNum (an := hold.an) (args := [.pointer p, .int .i64 n, .pointer page]) Try.func48 (by kernel_rfl) ((hold.eq p n page w R).mpr h)

/-- (*incunable/frames.Pool).Get -/
def fget.an : An := { wraps := [], loops := [], joins := [], ranges := [] }
def fget.vc (p : Option Addr) (n : Int) (w : World) (R : Ending → World → Prop) : Prop := br (decide (n < (0 : Int))) (R (Ending.returned (Value.tuple #[Value.pointer none, Value.int IntKind.i64 121])) w) (br (decide ((4096 : Int) ≤ n)) (R (Ending.returned (Value.tuple #[Value.pointer none,
 Value.int IntKind.i64 121])) w) (CallV Try.prog 46 [Value.pointer p, Value.int IntKind.i64 n] w fun e w' ↦ ∃ p_1, e = Ending.returned (Value.pointer p_1) ∧ ∃ b, Eqv Try.prog
 BinOp.eql 107 (Operand.tmp 18) (Operand.const (Value.pointer none)) w' (Value.pointer p_1) (Value.pointer none) b ∧ br b (CallV Try.prog 47 [Value.pointer p, Value.int IntKind.i64 n] w' fun
 e w' ↦ ∃ p_2 i, e = Ending.returned (Value.tuple #[Value.pointer p_2, Value.int IntKind.i64 i]) ∧ br (!decide (i = (0 : Int))) (R (Ending.returned (Value.tuple #[Value.pointer none, Value.int
 IntKind.i64 i])) w') (CallV Try.prog 48 [Value.pointer p, Value.int IntKind.i64 n, Value.pointer p_2] w' fun e w' ↦ ∃ p i, e = Ending.returned (Value.tuple #[Value.pointer p, Value.int
 IntKind.i64 i]) ∧ br (!decide (i = (0 : Int))) (R (Ending.returned (Value.tuple #[Value.pointer none, Value.int IntKind.i64 i])) w') (onP p fun a ↦ ∃ i, Ld Try.prog 3 w' (Addr.add a 2)
 (Value.int IntKind.i64 i) ∧ inR IntKind.i64 (i + (1 : Int)) ∧ onP p fun a ↦ ∃ w1, St Try.prog 3 w' (Addr.add a 2) (Value.int IntKind.i64 (i + (1 : Int))) w1 ∧ onP p fun a ↦ ∃ w1_1, St
 Try.prog 4 w1 (Addr.add a 4) (Value.bool true) w1_1 ∧ onP p fun a ↦ ∃ p, Ld Try.prog 31 w1_1 (Addr.add a 1) (Value.pointer p) ∧ R (Ending.returned (Value.tuple #[Value.pointer p,
 Value.int IntKind.i64 0])) w1_1))) (onP p_1 fun a ↦ ∃ i, Ld Try.prog 3 w' (Addr.add a 2) (Value.int IntKind.i64 i) ∧ inR IntKind.i64 (i + (1 : Int)) ∧ onP p_1 fun a ↦ ∃ w1, St
 Try.prog 3 w' (Addr.add a 2) (Value.int IntKind.i64 (i + (1 : Int))) w1 ∧ onP p_1 fun a ↦ ∃ w1_1, St Try.prog 4 w1 (Addr.add a 4) (Value.bool true) w1_1 ∧ onP p_1 fun a ↦ ∃ p, Ld
 Try.prog 31 w1_1 (Addr.add a 1) (Value.pointer p) ∧ R (Ending.returned (Value.tuple #[Value.pointer p, Value.int IntKind.i64 0])) w1_1)))
theorem fget.eq (p : Option Addr) (n : Int) (w : World) (R : Ending → World → Prop) : bodyV Try.prog fget.an Try.f22 [.pointer p, .int .i64 n] w R = fget.vc p n w R := by kernel_rfl
theorem fget.ok (p : Option Addr) (n : Int) (w : World) (R : Ending → World → Prop) (h : fget.vc p n w R) : Calls Try.prog 22 #[.pointer p, .int .i64 n] w R :=
  calls_of_bodyV noNum (an := fget.an) (args := [.pointer p, .int .i64 n]) Try.func22 (by kernel_rfl) ((fget.eq p n w R).mpr h)

/-- (*incunable/frames.Pool).Done -/
def fdone.an : An := { wraps := [], loops := [], joins := [], ranges := [] }
def fdone.vc (p : Option Addr) (n : Int) (changed : Bool) (w : World) (R : Ending → World → Prop) : Prop := CallV Try.prog 46 [Value.pointer p, Value.int IntKind.i64 n] w fun e w' ↦ ∃ p, e = Ending.returned (Value.pointer p) ∧ br (decide (n < (0 : Int))) (R (Ending.returned (Value.bool false)) w')
 (∃ b, Eqv Try.prog BinOp.eql 107 (Operand.tmp 14) (Operand.const (Value.pointer none)) w' (Value.pointer p) (Value.pointer none) b ∧ br b (R (Ending.returned (Value.bool false)) w') (onP p
 fun a ↦ ∃ i, Ld Try.prog 3 w' (Addr.add a 2) (Value.int IntKind.i64 i) ∧ br (decide (i = (0 : Int))) (R (Ending.returned (Value.bool false)) w') (onP p fun a ↦ ∃ i, Ld Try.prog 3
 w' (Addr.add a 2) (Value.int IntKind.i64 i) ∧ inR IntKind.i64 (i - (1 : Int)) ∧ onP p fun a ↦ ∃ w1, St Try.prog 3 w' (Addr.add a 2) (Value.int IntKind.i64 (i - (1 : Int))) w1 ∧ onP p fun a ↦
 ∃ b, Ld Try.prog 4 w1 (Addr.add a 3) (Value.bool b) ∧ br b (onP p fun a ↦ ∃ w1_1, St Try.prog 4 w1 (Addr.add a 3) (Value.bool true) w1_1 ∧ R (Ending.returned (Value.bool true))
 w1_1) (onP p fun a ↦ ∃ w1_1, St Try.prog 4 w1 (Addr.add a 3) (Value.bool changed) w1_1 ∧ R (Ending.returned (Value.bool true)) w1_1))))
theorem fdone.eq (p : Option Addr) (n : Int) (changed : Bool) (w : World) (R : Ending → World → Prop) : bodyV Try.prog fdone.an Try.f24 [.pointer p, .int .i64 n, .bool changed] w R = fdone.vc p n changed w R := by kernel_rfl
theorem fdone.ok (p : Option Addr) (n : Int) (changed : Bool) (w : World) (R : Ending → World → Prop) (h : fdone.vc p n changed w R) : Calls Try.prog 24 #[.pointer p, .int .i64 n, .bool changed] w R :=
  calls_of_bodyV noNum (an := fdone.an) (args := [.pointer p, .int .i64 n, .bool changed]) Try.func24 (by kernel_rfl) ((fdone.eq p n changed w R).mpr h)

/-- (*incunable/frames.Pool).Set -/
def fset.an : An := { wraps := [], loops := [], joins := [], ranges := [] }
def fset.vc (p : Option Addr) (n : Int) (page : Option Addr) (w : World) (R : Ending → World → Prop) : Prop := CallV Try.prog 46 [Value.pointer p, Value.int IntKind.i64 n] w fun e w' ↦ ∃ p_1, e = Ending.returned (Value.pointer p_1) ∧ br (decide (n < (0 : Int))) (R (Ending.returned (Value.int
 IntKind.i64 121)) w') (br (decide ((4096 : Int) ≤ n)) (R (Ending.returned (Value.int IntKind.i64 121)) w') (∃ b, Eqv Try.prog BinOp.neq 107 (Operand.tmp 21) (Operand.const (Value.pointer
 none)) w' (Value.pointer p_1) (Value.pointer none) b ∧ br b (onP p_1 fun a ↦ ∃ i, Ld Try.prog 3 w' (Addr.add a 2) (Value.int IntKind.i64 i) ∧ br (decide ((0 : Int) < i)) (R (Ending.returned
 (Value.int IntKind.i64 120)) w') (∃ b, Eqv Try.prog BinOp.eql 107 (Operand.tmp 31) (Operand.const (Value.pointer none)) w' (Value.pointer p_1) (Value.pointer none) b ∧ br b (CallV
 Try.prog 48 [Value.pointer p, Value.int IntKind.i64 n, Value.pointer none] w' fun e w' ↦ ∃ p i, e = Ending.returned (Value.tuple #[Value.pointer p, Value.int IntKind.i64 i]) ∧ br (!decide (i
 = (0 : Int))) (R (Ending.returned (Value.int IntKind.i64 i)) w') (CallV Try.prog 61 [Value.pointer page] w' fun e w' ↦ ∃ p_2, e = Ending.returned (Value.pointer p_2) ∧ onP p fun a ↦ ∃ w1, St
 Try.prog 31 w' (Addr.add a 1) (Value.pointer p_2) w1 ∧ onP p fun a ↦ ∃ w1_1, St Try.prog 4 w1 (Addr.add a 3) (Value.bool true) w1_1 ∧ onP p fun a ↦ ∃ w1, St Try.prog 4
 w1_1 (Addr.add a 4) (Value.bool true) w1 ∧ R (Ending.returned (Value.int IntKind.i64 0)) w1)) (CallV Try.prog 61 [Value.pointer page] w' fun e w' ↦ ∃ p, e = Ending.returned (Value.pointer p)
 ∧ onP p_1 fun a ↦ ∃ w1, St Try.prog 31 w' (Addr.add a 1) (Value.pointer p) w1 ∧ onP p_1 fun a ↦ ∃ w1_1, St Try.prog 4 w1 (Addr.add a 3) (Value.bool true) w1_1 ∧ onP p_1 fun a ↦ ∃
 w1, St Try.prog 4 w1_1 (Addr.add a 4) (Value.bool true) w1 ∧ R (Ending.returned (Value.int IntKind.i64 0)) w1))) (∃ b, Eqv Try.prog BinOp.eql 107 (Operand.tmp 31) (Operand.const
 (Value.pointer none)) w' (Value.pointer p_1) (Value.pointer none) b ∧ br b (CallV Try.prog 48 [Value.pointer p, Value.int IntKind.i64 n, Value.pointer none] w' fun e w' ↦ ∃ p i, e =
 Ending.returned (Value.tuple #[Value.pointer p, Value.int IntKind.i64 i]) ∧ br (!decide (i = (0 : Int))) (R (Ending.returned (Value.int IntKind.i64 i)) w') (CallV Try.prog 61 [Value.pointer
 page] w' fun e w' ↦ ∃ p_2, e = Ending.returned (Value.pointer p_2) ∧ onP p fun a ↦ ∃ w1, St Try.prog 31 w' (Addr.add a 1) (Value.pointer p_2) w1 ∧ onP p fun a ↦ ∃ w1_1, St Try.prog
 4 w1 (Addr.add a 3) (Value.bool true) w1_1 ∧ onP p fun a ↦ ∃ w1, St Try.prog 4 w1_1 (Addr.add a 4) (Value.bool true) w1 ∧ R (Ending.returned (Value.int IntKind.i64 0)) w1)) (CallV
 Try.prog 61 [Value.pointer page] w' fun e w' ↦ ∃ p, e = Ending.returned (Value.pointer p) ∧ onP p_1 fun a ↦ ∃ w1, St Try.prog 31 w' (Addr.add a 1) (Value.pointer p) w1 ∧ onP p_1
 fun a ↦ ∃ w1_1, St Try.prog 4 w1 (Addr.add a 3) (Value.bool true) w1_1 ∧ onP p_1 fun a ↦ ∃ w1, St Try.prog 4 w1_1 (Addr.add a 4) (Value.bool true) w1 ∧ R (Ending.returned
 (Value.int IntKind.i64 0)) w1))))
theorem fset.eq (p : Option Addr) (n : Int) (page : Option Addr) (w : World) (R : Ending → World → Prop) : bodyV Try.prog fset.an Try.f32 [.pointer p, .int .i64 n, .pointer page] w R = fset.vc p n page w R := by kernel_rfl
theorem fset.ok (p : Option Addr) (n : Int) (page : Option Addr) (w : World) (R : Ending → World → Prop) (h : fset.vc p n page w R) : Calls Try.prog 32 #[.pointer p, .int .i64 n, .pointer page] w R :=
  calls_of_bodyV noNum (an := fset.an) (args := [.pointer p, .int .i64 n, .pointer page]) Try.func32 (by kernel_rfl) ((fset.eq p n page w R).mpr h)

/-- (*incunable/frames.Pool).Flush -/
def fflush.an : An := { wraps := [], loops := [(4, [(13, .inl .i64)])], joins := [], ranges := [] }
def fflush.vc (p : Option Addr) (w : World) (R : Ending → World → Prop) : Prop := CallV Try.prog 50 [Value.pointer p, Value.func (Fn.func 52) #[] #[]] w fun e w' ↦ ∃ a l c, e = Ending.returned (Value.slice a l c) ∧ br (decide ((0 : Int) < (↑l : Int))) (R (Ending.returned
 (Value.int IntKind.i64 120)) w') (CallV Try.prog 25 [Value.pointer p] w' fun e w' ↦ ∃ a l c, e = Ending.returned (Value.slice a l c) ∧ LoopP (fun (s : Int) (w' : World) (next : Int → World →
 Prop) ↦ br (decide (s < (↑l : Int))) (onP a fun a ↦ ((0 : Int) ≤ s ∧ s < (↑l : Int)) ∧ ∃ i, Ld Try.prog 3 w' (Addr.add a (Int.toNat s * 1)) (Value.int IntKind.i64 i) ∧ CallV
 Try.prog 46 [Value.pointer p, Value.int IntKind.i64 i] w' fun e w' ↦ ∃ p_1, e = Ending.returned (Value.pointer p_1) ∧ CallV Try.prog 53 [Value.pointer p, Value.pointer p_1] w' fun
 e w' ↦ ∃ i, e = Ending.returned (Value.int IntKind.i64 i) ∧ br (!decide (i = (0 : Int))) (R (Ending.returned (Value.int IntKind.i64 i)) w') (inR IntKind.i64 (s + (1 : Int)) ∧ next (s + (1 : Int)) w'))
 (onP p fun a ↦ ∃ p_1, Ld Try.prog 32 (World.drew w') a (Value.pointer p_1) ∧ onP p fun a ↦ ∃ s, Ld Try.prog 9 (World.drew w') (Addr.add a 1) (Value.string s) ∧ CallV
 Try.prog 54 [Value.pointer p_1, Value.string s] (World.drew w') fun e w' ↦ ∃ i, e = Ending.returned (Value.int IntKind.i64 i) ∧ R (Ending.returned (Value.int IntKind.i64 i)) w')) (0 : Int)
 w')
theorem fflush.eq (p : Option Addr) (w : World) (R : Ending → World → Prop) : bodyV Try.prog fflush.an Try.f26 [.pointer p] w R = fflush.vc p w R := by kernel_rfl
theorem fflush.ok (p : Option Addr) (w : World) (R : Ending → World → Prop) (h : fflush.vc p w R) : Calls Try.prog 26 #[.pointer p] w R :=
  calls_of_bodyV noNum (an := fflush.an) (args := [.pointer p]) Try.func26 (by kernel_rfl) ((fflush.eq p w R).mpr h)

/-- (*incunable/frames.Pool).Flush$1 -/
def fflushC.an : An := { wraps := [], loops := [], joins := [], ranges := [] }
def fflushC.vc (f : Option Addr) (w : World) (R : Ending → World → Prop) : Prop := onP f fun a ↦ ∃ i, Ld Try.prog 3 w (Addr.add a 2) (Value.int IntKind.i64 i) ∧ R (Ending.returned (Value.bool (decide ((0 : Int) < i)))) w
theorem fflushC.eq (f : Option Addr) (w : World) (R : Ending → World → Prop) : bodyV Try.prog fflushC.an Try.f52 [.pointer f] w R = fflushC.vc f w R := by kernel_rfl
theorem fflushC.ok (f : Option Addr) (w : World) (R : Ending → World → Prop) (h : fflushC.vc f w R) : Calls Try.prog 52 #[.pointer f] w R :=
  calls_of_bodyV noNum (an := fflushC.an) (args := [.pointer f]) Try.func52 (by kernel_rfl) ((fflushC.eq f w R).mpr h)

/-- incunable/incunableref12.New -/
def qnew.an : An := { wraps := [], loops := [], joins := [], ranges := [] }
def qnew.vc (pages : Int) (many : Int) (w : World) (R : Ending → World → Prop) : Prop := ∀ b w1, New w (Obj.cells #[Value.slice none 0 0, Value.slice none 0 0, Value.int IntKind.i64 0] 46) b w1 → (∃ a n m w1_1, MkS Try.prog 44 (World.drew w1) (Value.int IntKind.i64 pages)
 (Value.int IntKind.i64 pages) (Value.slice a n m) w1_1 ∧ ∃ a_1 n_1 m_1 w1, MkS Try.prog 34 w1_1 (Value.int IntKind.i64 pages) (Value.int IntKind.i64 pages) (Value.slice a_1 n_1 m_1) w1 ∧ ∃
 w1_2, St Try.prog 46 w1 (Addr.mk b 0 none) (Value.agg #[Value.slice a n m, Value.slice a_1 n_1 m_1, Value.int IntKind.i64 many]) w1_2 ∧ ∃ a l c a_2 l_1 c_1 i, Ld Try.prog 46 w1_2
 (Addr.mk b 0 none) (Value.agg #[Value.slice a l c, Value.slice a_2 l_1 c_1, Value.int IntKind.i64 i]) ∧ R (Ending.returned (Value.agg #[Value.slice a l c, Value.slice a_2 l_1 c_1, Value.int
 IntKind.i64 i])) w1_2) ∧ ∃ a n m w1_1, MkS Try.prog 34 (World.drew w1) (Value.int IntKind.i64 pages) (Value.int IntKind.i64 pages) (Value.slice a n m) w1_1 ∧ ∃ a_1 n_1 m_1 w1, MkS
 Try.prog 44 w1_1 (Value.int IntKind.i64 pages) (Value.int IntKind.i64 pages) (Value.slice a_1 n_1 m_1) w1 ∧ ∃ w1_2, St Try.prog 46 w1 (Addr.mk b 0 none) (Value.agg #[Value.slice
 a_1 n_1 m_1, Value.slice a n m, Value.int IntKind.i64 many]) w1_2 ∧ ∃ a l c a_2 l_1 c_1 i, Ld Try.prog 46 w1_2 (Addr.mk b 0 none) (Value.agg #[Value.slice a l c, Value.slice a_2 l_1 c_1,
 Value.int IntKind.i64 i]) ∧ R (Ending.returned (Value.agg #[Value.slice a l c, Value.slice a_2 l_1 c_1, Value.int IntKind.i64 i])) w1_2
theorem qnew.eq (pages : Int) (many : Int) (w : World) (R : Ending → World → Prop) : bodyV Try.prog qnew.an Try.f14 [.int .i64 pages, .int .i64 many] w R = qnew.vc pages many w R := by kernel_rfl
theorem qnew.ok (pages : Int) (many : Int) (w : World) (R : Ending → World → Prop) (h : qnew.vc pages many w R) : Calls Try.prog 14 #[.int .i64 pages, .int .i64 many] w R :=
  calls_of_bodyV noNum (an := qnew.an) (args := [.int .i64 pages, .int .i64 many]) Try.func14 (by kernel_rfl) ((qnew.eq pages many w R).mpr h)

/-- incunable/incunableref12.pinned -/
def qpinned.an : An := { wraps := [], loops := [(3, [(3, .inl .i64), (4, .inl .i64)])], joins := [], ranges := [] }
def qpinned.vc (p_Pagesa : Option Addr) (p_Pagesn : Nat) (p_Pagesc : Nat) (p_Pinsa : Option Addr) (p_Pinsn : Nat) (p_Pinsc : Nat) (p_Many : Int) (w : World) (R : Ending → World → Prop) : Prop := ∀ b w1, New w (Obj.cells #[Value.slice p_Pagesa p_Pagesn p_Pagesc, Value.slice p_Pinsa p_Pinsn p_Pinsc, Value.int IntKind.i64 p_Many] 46) b w1 → LoopP (fun (s : Int × Int) (w' : World) (next : Int ×
 Int → World → Prop) ↦ ∃ a l c, Ld Try.prog 34 w' (Addr.mk b 1 none) (Value.slice a l c) ∧ br (decide (Prod.snd s < (↑l : Int))) (∃ a l c, Ld Try.prog 34 w' (Addr.mk b 1 none)
 (Value.slice a l c) ∧ onP a fun a ↦ ((0 : Int) ≤ Prod.snd s ∧ Prod.snd s < (↑l : Int)) ∧ ∃ i, Ld Try.prog 3 w' (Addr.add a (Int.toNat (Prod.snd s) * 1)) (Value.int IntKind.i64 i) ∧ br
 (decide ((0 : Int) < i)) (inR IntKind.i64 (Prod.fst s + (1 : Int)) ∧ inR IntKind.i64 (Prod.snd s + (1 : Int)) ∧ next (Prod.fst s + (1 : Int), Prod.snd s + (1 : Int)) w') (inR IntKind.i64 (Prod.snd s +
 (1 : Int)) ∧ next (Prod.fst s, Prod.snd s + (1 : Int)) w')) (R (Ending.returned (Value.int IntKind.i64 (Prod.fst s))) w')) ((0 : Int), (0 : Int)) w1
theorem qpinned.eq (p_Pagesa : Option Addr) (p_Pagesn : Nat) (p_Pagesc : Nat) (p_Pinsa : Option Addr) (p_Pinsn : Nat) (p_Pinsc : Nat) (p_Many : Int) (w : World) (R : Ending → World → Prop) : bodyV Try.prog qpinned.an Try.f35 [.agg #[.slice p_Pagesa p_Pagesn p_Pagesc, .slice p_Pinsa p_Pinsn p_Pinsc, .int .i64 p_Many]] w R = qpinned.vc p_Pagesa p_Pagesn p_Pagesc p_Pinsa p_Pinsn p_Pinsc p_Many w R := by kernel_rfl
theorem qpinned.ok (p_Pagesa : Option Addr) (p_Pagesn : Nat) (p_Pagesc : Nat) (p_Pinsa : Option Addr) (p_Pinsn : Nat) (p_Pinsc : Nat) (p_Many : Int) (w : World) (R : Ending → World → Prop) (h : qpinned.vc p_Pagesa p_Pagesn p_Pagesc p_Pinsa p_Pinsn p_Pinsc p_Many w R) : Calls Try.prog 35 #[.agg #[.slice p_Pagesa p_Pagesn p_Pagesc, .slice p_Pinsa p_Pinsn p_Pinsc, .int .i64 p_Many]] w R :=
  calls_of_bodyV noNum (an := qpinned.an) (args := [.agg #[.slice p_Pagesa p_Pagesn p_Pagesc, .slice p_Pinsa p_Pinsn p_Pinsc, .int .i64 p_Many]]) Try.func35 (by kernel_rfl) ((qpinned.eq p_Pagesa p_Pagesn p_Pagesc p_Pinsa p_Pinsn p_Pinsc p_Many w R).mpr h)

/-- incunable/incunableref12.in -/
def qin.an : An := { wraps := [], loops := [], joins := [], ranges := [] }
def qin.vc (p_Pagesa : Option Addr) (p_Pagesn : Nat) (p_Pagesc : Nat) (p_Pinsa : Option Addr) (p_Pinsn : Nat) (p_Pinsc : Nat) (p_Many : Int) (n : Int) (w : World) (R : Ending → World → Prop) : Prop := ∀ b w1, New w (Obj.cells #[Value.slice p_Pagesa p_Pagesn p_Pagesc, Value.slice p_Pinsa p_Pinsn p_Pinsc, Value.int IntKind.i64 p_Many] 46) b w1 → br (decide ((0 : Int) ≤ n)) (∃ a l c, Ld
 Try.prog 44 w1 (Addr.mk b 0 none) (Value.slice a l c) ∧ R (Ending.returned (Value.bool (decide (n < (↑l : Int))))) w1) (R (Ending.returned (Value.bool false)) w1)
theorem qin.eq (p_Pagesa : Option Addr) (p_Pagesn : Nat) (p_Pagesc : Nat) (p_Pinsa : Option Addr) (p_Pinsn : Nat) (p_Pinsc : Nat) (p_Many : Int) (n : Int) (w : World) (R : Ending → World → Prop) : bodyV Try.prog qin.an Try.f36 [.agg #[.slice p_Pagesa p_Pagesn p_Pagesc, .slice p_Pinsa p_Pinsn p_Pinsc, .int .i64 p_Many], .int .i64 n] w R = qin.vc p_Pagesa p_Pagesn p_Pagesc p_Pinsa p_Pinsn p_Pinsc p_Many n w R := by kernel_rfl
theorem qin.ok (p_Pagesa : Option Addr) (p_Pagesn : Nat) (p_Pagesc : Nat) (p_Pinsa : Option Addr) (p_Pinsn : Nat) (p_Pinsc : Nat) (p_Many : Int) (n : Int) (w : World) (R : Ending → World → Prop) (h : qin.vc p_Pagesa p_Pagesn p_Pagesc p_Pinsa p_Pinsn p_Pinsc p_Many n w R) : Calls Try.prog 36 #[.agg #[.slice p_Pagesa p_Pagesn p_Pagesc, .slice p_Pinsa p_Pinsn p_Pinsc, .int .i64 p_Many], .int .i64 n] w R :=
  calls_of_bodyV noNum (an := qin.an) (args := [.agg #[.slice p_Pagesa p_Pagesn p_Pagesc, .slice p_Pinsa p_Pinsn p_Pinsc, .int .i64 p_Many], .int .i64 n]) Try.func36 (by kernel_rfl) ((qin.eq p_Pagesa p_Pagesn p_Pagesc p_Pinsa p_Pinsn p_Pinsc p_Many n w R).mpr h)

/-- incunable/incunableref12.pins -/
def qpins.an : An := { wraps := [], loops := [], joins := [], ranges := [] }
def qpins.vc (p_Pagesa : Option Addr) (p_Pagesn : Nat) (p_Pagesc : Nat) (p_Pinsa : Option Addr) (p_Pinsn : Nat) (p_Pinsc : Nat) (p_Many : Int) (n : Int) (more : Int) (w : World) (R : Ending → World → Prop) : Prop := ∀ b w1, New w (Obj.cells #[Value.slice p_Pagesa p_Pagesn p_Pagesc, Value.slice p_Pinsa p_Pinsn p_Pinsc, Value.int IntKind.i64 p_Many] 46) b w1 → ∀ b_1 w1_1, New w1 (Obj.cells #[Value.slice none 0 0,
 Value.slice none 0 0, Value.int IntKind.i64 0] 46) b_1 w1_1 → ∀ b_2 w1, New w1_1 (Obj.cells #[] 3) b_2 w1 → ∃ a l c, Ld Try.prog 34 w1 (Addr.mk b 1 none) (Value.slice a l c) ∧ ∃ a_1 n_1 m
 w1_2, App Try.prog #[34, 34] 34 w1 (Value.slice (some (Addr.mk b_2 0 none)) 0 0) (Value.slice a l c) (Value.slice a_1 n_1 m) w1_2 ∧ onP a_1 fun a ↦ ((0 : Int) ≤ n ∧ n < (↑n_1 : Int)) ∧ ∃ i,
 Ld Try.prog 3 w1_2 (Addr.add a (Int.toNat n * 1)) (Value.int IntKind.i64 i) ∧ inR IntKind.i64 (i + more) ∧ onP a_1 fun a ↦ ((0 : Int) ≤ n ∧ n < (↑n_1 : Int)) ∧ ∃ w1, St Try.prog 3
 w1_2 (Addr.add a (Int.toNat n * 1)) (Value.int IntKind.i64 (i + more)) w1 ∧ ∃ w1_3, St Try.prog 34 w1 (Addr.mk b 1 none) (Value.slice a_1 n_1 m) w1_3 ∧ ∃ a l c a_2 l_1 c_1 i, Ld
 Try.prog 46 w1_3 (Addr.mk b 0 none) (Value.agg #[Value.slice a l c, Value.slice a_2 l_1 c_1, Value.int IntKind.i64 i]) ∧ ∃ w1, St Try.prog 46 w1_3 (Addr.mk b_1 0 none) (Value.agg
 #[Value.slice a l c, Value.slice a_2 l_1 c_1, Value.int IntKind.i64 i]) w1 ∧ ∃ a l c a_3 l_2 c_2 i, Ld Try.prog 46 w1 (Addr.mk b_1 0 none) (Value.agg #[Value.slice a l c, Value.slice a_3 l_2
 c_2, Value.int IntKind.i64 i]) ∧ R (Ending.returned (Value.agg #[Value.slice a l c, Value.slice a_3 l_2 c_2, Value.int IntKind.i64 i])) w1
theorem qpins.eq (p_Pagesa : Option Addr) (p_Pagesn : Nat) (p_Pagesc : Nat) (p_Pinsa : Option Addr) (p_Pinsn : Nat) (p_Pinsc : Nat) (p_Many : Int) (n : Int) (more : Int) (w : World) (R : Ending → World → Prop) : bodyV Try.prog qpins.an Try.f37 [.agg #[.slice p_Pagesa p_Pagesn p_Pagesc, .slice p_Pinsa p_Pinsn p_Pinsc, .int .i64 p_Many], .int .i64 n, .int .i64 more] w R = qpins.vc p_Pagesa p_Pagesn p_Pagesc p_Pinsa p_Pinsn p_Pinsc p_Many n more w R := by kernel_rfl
theorem qpins.ok (p_Pagesa : Option Addr) (p_Pagesn : Nat) (p_Pagesc : Nat) (p_Pinsa : Option Addr) (p_Pinsn : Nat) (p_Pinsc : Nat) (p_Many : Int) (n : Int) (more : Int) (w : World) (R : Ending → World → Prop) (h : qpins.vc p_Pagesa p_Pagesn p_Pagesc p_Pinsa p_Pinsn p_Pinsc p_Many n more w R) : Calls Try.prog 37 #[.agg #[.slice p_Pagesa p_Pagesn p_Pagesc, .slice p_Pinsa p_Pinsn p_Pinsc, .int .i64 p_Many], .int .i64 n, .int .i64 more] w R :=
  calls_of_bodyV noNum (an := qpins.an) (args := [.agg #[.slice p_Pagesa p_Pagesn p_Pagesc, .slice p_Pinsa p_Pinsn p_Pinsc, .int .i64 p_Many], .int .i64 n, .int .i64 more]) Try.func37 (by kernel_rfl) ((qpins.eq p_Pagesa p_Pagesn p_Pagesc p_Pinsa p_Pinsn p_Pinsc p_Many n more w R).mpr h)

/-- incunable/incunableref12.laid -/
def qlaid.an : An := { wraps := [], loops := [], joins := [], ranges := [] }
def qlaid.vc (p_Pagesa : Option Addr) (p_Pagesn : Nat) (p_Pagesc : Nat) (p_Pinsa : Option Addr) (p_Pinsn : Nat) (p_Pinsc : Nat) (p_Many : Int) (n : Int) (x_La : Option Addr) (x_Ln : Nat) (x_Lc : Nat) (x_Stamp : Int) (w : World) (R : Ending → World → Prop) : Prop := ∀ b w1, New w (Obj.cells #[Value.slice p_Pagesa p_Pagesn p_Pagesc, Value.slice p_Pinsa p_Pinsn p_Pinsc, Value.int IntKind.i64 p_Many] 46) b w1 → ∀ b_1 w1_1, New w1 (Obj.cells #[Value.slice x_La x_Ln
 x_Lc, Value.int IntKind.i64 x_Stamp] 83) b_1 w1_1 → ∀ b_2 w1, New w1_1 (Obj.cells #[Value.slice none 0 0, Value.slice none 0 0, Value.int IntKind.i64 0] 46) b_2 w1 → ∀ b_3 w1_2, New w1 (Obj.cells #[]
 83) b_3 w1_2 → ∃ a l c, Ld Try.prog 44 w1_2 (Addr.mk b 0 none) (Value.slice a l c) ∧ ∃ a_1 n_1 m w1, App Try.prog #[44, 44] 44 w1_2 (Value.slice (some (Addr.mk b_3 0 none)) 0 0)
 (Value.slice a l c) (Value.slice a_1 n_1 m) w1 ∧ ∃ a l c i, Ld Try.prog 83 w1 (Addr.mk b_1 0 none) (Value.agg #[Value.slice a l c, Value.int IntKind.i64 i]) ∧ onP a_1 fun a_2 ↦ ((0 : Int) ≤
 n ∧ n < (↑n_1 : Int)) ∧ ∃ w1_3, St Try.prog 83 w1 (Addr.add a_2 (Int.toNat n * 2)) (Value.agg #[Value.slice a l c, Value.int IntKind.i64 i]) w1_3 ∧ ∃ w1, St Try.prog 44 w1_3
 (Addr.mk b 0 none) (Value.slice a_1 n_1 m) w1 ∧ ∃ a l c a_3 l_1 c_1 i, Ld Try.prog 46 w1 (Addr.mk b 0 none) (Value.agg #[Value.slice a l c, Value.slice a_3 l_1 c_1, Value.int IntKind.i64 i])
 ∧ ∃ w1_4, St Try.prog 46 w1 (Addr.mk b_2 0 none) (Value.agg #[Value.slice a l c, Value.slice a_3 l_1 c_1, Value.int IntKind.i64 i]) w1_4 ∧ ∃ a l c a_4 l_2 c_2 i, Ld Try.prog 46
 w1_4 (Addr.mk b_2 0 none) (Value.agg #[Value.slice a l c, Value.slice a_4 l_2 c_2, Value.int IntKind.i64 i]) ∧ R (Ending.returned (Value.agg #[Value.slice a l c, Value.slice a_4 l_2 c_2, Value.int
 IntKind.i64 i])) w1_4
theorem qlaid.eq (p_Pagesa : Option Addr) (p_Pagesn : Nat) (p_Pagesc : Nat) (p_Pinsa : Option Addr) (p_Pinsn : Nat) (p_Pinsc : Nat) (p_Many : Int) (n : Int) (x_La : Option Addr) (x_Ln : Nat) (x_Lc : Nat) (x_Stamp : Int) (w : World) (R : Ending → World → Prop) : bodyV Try.prog qlaid.an Try.f39 [.agg #[.slice p_Pagesa p_Pagesn p_Pagesc, .slice p_Pinsa p_Pinsn p_Pinsc, .int .i64 p_Many], .int .i64 n, .agg #[.slice x_La x_Ln x_Lc, .int .i64 x_Stamp]] w R = qlaid.vc p_Pagesa p_Pagesn p_Pagesc p_Pinsa p_Pinsn p_Pinsc p_Many n x_La x_Ln x_Lc x_Stamp w R := by kernel_rfl
theorem qlaid.ok (p_Pagesa : Option Addr) (p_Pagesn : Nat) (p_Pagesc : Nat) (p_Pinsa : Option Addr) (p_Pinsn : Nat) (p_Pinsc : Nat) (p_Many : Int) (n : Int) (x_La : Option Addr) (x_Ln : Nat) (x_Lc : Nat) (x_Stamp : Int) (w : World) (R : Ending → World → Prop) (h : qlaid.vc p_Pagesa p_Pagesn p_Pagesc p_Pinsa p_Pinsn p_Pinsc p_Many n x_La x_Ln x_Lc x_Stamp w R) : Calls Try.prog 39 #[.agg #[.slice p_Pagesa p_Pagesn p_Pagesc, .slice p_Pinsa p_Pinsn p_Pinsc, .int .i64 p_Many], .int .i64 n, .agg #[.slice x_La x_Ln x_Lc, .int .i64 x_Stamp]] w R :=
  calls_of_bodyV noNum (an := qlaid.an) (args := [.agg #[.slice p_Pagesa p_Pagesn p_Pagesc, .slice p_Pinsa p_Pinsn p_Pinsc, .int .i64 p_Many], .int .i64 n, .agg #[.slice x_La x_Ln x_Lc, .int .i64 x_Stamp]]) Try.func39 (by kernel_rfl) ((qlaid.eq p_Pagesa p_Pagesn p_Pagesc p_Pinsa p_Pinsn p_Pinsc p_Many n x_La x_Ln x_Lc x_Stamp w R).mpr h)


end Go.Proofs.Ytiagjabdfppgkaa
