/- Of each function the statement that the calculus reckons, printed by a program, and that it is that statement. -/
import Derived.Test.YtiagjabdfppgkaaGreatFnsA
import Derived.Test.YtiagjabdfppgkaaGreatChecked
set_option linter.unusedVariables false
set_option maxRecDepth 100000
namespace Go.Proofs.YtiagjabdfppgkaaGreat
open Go Go.Vc

/-- (*incunable/frames.Pool).read -/
def fread.an : An := { wraps := [], loops := [(3, [(6, .inr 3), (10, .inl .i64)])], joins := [], ranges := [] }
def fread.vc (p : Option Addr) (n : Int) (w : World) (R : Ending → World → Prop) : Prop := LoopP (fun (s : (Option Addr × Nat × Nat) × Int) (w' : World) (next : (Option Addr × Nat × Nat) × Int → World → Prop) ↦ br (decide (Prod.snd s < (8 : Int))) (onP p fun a ↦ ∃ p_1, Ld Tryz.prog
 35 (World.drew w') a (Value.pointer p_1) ∧ onP p fun a ↦ ∃ s_1, Ld Tryz.prog 9 (World.drew w') (Addr.add a 1) (Value.string s_1) ∧ inR IntKind.i64 (n * (8 : Int)) ∧ inR IntKind.i64 (n * (8 :
 Int) + Prod.snd s) ∧ CallV Tryz.prog 65 [Value.pointer p_1, Value.string s_1, Value.int IntKind.i64 (n * (8 : Int) + Prod.snd s)] (World.drew w') fun e w' ↦ ∃ a l c i, e = Ending.returned
 (Value.tuple #[Value.slice a l c, Value.int IntKind.i64 i]) ∧ br (decide (i = (0 : Int))) (∃ a_1 n m w1, App Tryz.prog #[111, 111] 111 w' (Value.slice (Prod.fst (Prod.fst s)) (Prod.fst
 (Prod.snd (Prod.fst s))) (Prod.snd (Prod.snd (Prod.fst s)))) (Value.slice a l c) (Value.slice a_1 n m) w1 ∧ inR IntKind.i64 (Prod.snd s + (1 : Int)) ∧ next ((a_1, n, m), Prod.snd s + (1 : Int)) w1)
 (br (decide (i = (91 : Int))) (∃ a n m w1, App Tryz.prog #[111, 3] 111 w' (Value.slice (Prod.fst (Prod.fst s)) (Prod.fst (Prod.snd (Prod.fst s))) (Prod.snd (Prod.snd (Prod.fst s))))
 (Value.int IntKind.i64 512) (Value.slice a n m) w1 ∧ inR IntKind.i64 (Prod.snd s + (1 : Int)) ∧ next ((a, n, m), Prod.snd s + (1 : Int)) w1) (R (Ending.returned (Value.tuple #[Value.pointer none,
 Value.int IntKind.i64 i])) w'))) (CallV Tryz.prog 66 [Value.slice (Prod.fst (Prod.fst s)) (Prod.fst (Prod.snd (Prod.fst s))) (Prod.snd (Prod.snd (Prod.fst s)))] w' fun e w' ↦ ∃ p i, e =
 Ending.returned (Value.tuple #[Value.pointer p, Value.int IntKind.i64 i]) ∧ R (Ending.returned (Value.tuple #[Value.pointer p, Value.int IntKind.i64 i])) w')) ((none, 0, 0), (0 : Int)) w
theorem fread.eq (p : Option Addr) (n : Int) (w : World) (R : Ending → World → Prop) : bodyV Tryz.prog fread.an Tryz.f36 [.pointer p, .int .i64 n] w R = fread.vc p n w R := by kernel_rfl
theorem fread.ok (p : Option Addr) (n : Int) (w : World) (R : Ending → World → Prop) (h : fread.vc p n w R) : Calls Tryz.prog 36 #[.pointer p, .int .i64 n] w R :=
  calls_of_bodyV noNum (an := fread.an) (args := [.pointer p, .int .i64 n]) Tryz.func36 (by kernel_rfl) ((fread.eq p n w R).mpr h)

/-- (*incunable/frames.Pool).hold -/
def hold.an : An := { wraps := [], loops := [], joins := [], ranges := [] }
def hold.vc (p : Option Addr) (n : Int) (page : Option Addr) (w : World) (R : Ending → World → Prop) : Prop := CallV Tryz.prog 67 [Value.pointer p] w fun e w' ↦ ∃ i i_1, e = Ending.returned (Value.tuple #[Value.int IntKind.i64 i, Value.int IntKind.i64 i_1]) ∧ br (!decide (i_1 = (0 : Int))) (R
 (Ending.returned (Value.tuple #[Value.pointer none, Value.int IntKind.i64 i_1])) w') (onP p fun a ↦ ∃ a_1 l c, Ld Tryz.prog 68 w' (Addr.add a 4) (Value.slice a_1 l c) ∧ ∀ b w1, New w'
 (Obj.cells #[Value.int IntKind.i64 n, Value.pointer page, Value.int IntKind.i64 0, Value.bool false, Value.bool true] 63) b w1 → onP a_1 fun a ↦ ((0 : Int) ≤ i ∧ i < (↑l : Int)) ∧ ∃ w1_1, St
 Tryz.prog 61 w1 (Addr.add a (Int.toNat i * 1)) (Value.pointer (some (Addr.mk b 0 none))) w1_1 ∧ onP p fun a ↦ ∃ i_2, Ld Tryz.prog 3 w1_1 (Addr.add a 6) (Value.int IntKind.i64 i_2) ∧
 inR IntKind.i64 (n + (1 : Int)) ∧ onP p fun a ↦ ∃ w1, St Tryz.prog 3 w1_1 (Addr.add a 6) (Value.int IntKind.i64 (max i_2 (n + (1 : Int)))) w1 ∧ onP p fun a ↦ ∃ a_2 l c, Ld Tryz.prog
 68 w1 (Addr.add a 4) (Value.slice a_2 l c) ∧ onP a_2 fun a ↦ ((0 : Int) ≤ i ∧ i < (↑l : Int)) ∧ ∃ p, Ld Tryz.prog 61 w1 (Addr.add a (Int.toNat i * 1)) (Value.pointer p) ∧ R (Ending.returned
 (Value.tuple #[Value.pointer p, Value.int IntKind.i64 0])) w1)
theorem hold.eq (p : Option Addr) (n : Int) (page : Option Addr) (w : World) (R : Ending → World → Prop) : bodyV Tryz.prog hold.an Tryz.f37 [.pointer p, .int .i64 n, .pointer page] w R = hold.vc p n page w R := by kernel_rfl
theorem hold.ok (p : Option Addr) (n : Int) (page : Option Addr) (w : World) (R : Ending → World → Prop) (h : hold.vc p n page w R) : Calls Tryz.prog 37 #[.pointer p, .int .i64 n, .pointer page] w R :=
  calls_of_bodyV noNum (an := hold.an) (args := [.pointer p, .int .i64 n, .pointer page]) Tryz.func37 (by kernel_rfl) ((hold.eq p n page w R).mpr h)

/-- (*incunable/frames.Pool).Get -/
def fget.an : An := { wraps := [], loops := [], joins := [], ranges := [] }
def fget.vc (p : Option Addr) (n : Int) (w : World) (R : Ending → World → Prop) : Prop := br (decide (n < (0 : Int))) (R (Ending.returned (Value.tuple #[Value.pointer none, Value.int IntKind.i64 121])) w) (br (decide ((4096 : Int) ≤ n)) (R (Ending.returned (Value.tuple #[Value.pointer none,
 Value.int IntKind.i64 121])) w) (CallV Tryz.prog 26 [Value.pointer p, Value.int IntKind.i64 n] w fun e w' ↦ ∃ p_1, e = Ending.returned (Value.pointer p_1) ∧ ∃ b, Eqv Tryz.prog
 BinOp.eql 61 (Operand.tmp 18) (Operand.const (Value.pointer none)) w' (Value.pointer p_1) (Value.pointer none) b ∧ br b (CallV Tryz.prog 36 [Value.pointer p, Value.int IntKind.i64 n] w' fun e
 w' ↦ ∃ p_2 i, e = Ending.returned (Value.tuple #[Value.pointer p_2, Value.int IntKind.i64 i]) ∧ br (!decide (i = (0 : Int))) (R (Ending.returned (Value.tuple #[Value.pointer none, Value.int
 IntKind.i64 i])) w') (CallV Tryz.prog 37 [Value.pointer p, Value.int IntKind.i64 n, Value.pointer p_2] w' fun e w' ↦ ∃ p i, e = Ending.returned (Value.tuple #[Value.pointer p, Value.int
 IntKind.i64 i]) ∧ br (!decide (i = (0 : Int))) (R (Ending.returned (Value.tuple #[Value.pointer none, Value.int IntKind.i64 i])) w') (onP p fun a ↦ ∃ i, Ld Tryz.prog 3 w' (Addr.add a 2)
 (Value.int IntKind.i64 i) ∧ inR IntKind.i64 (i + (1 : Int)) ∧ onP p fun a ↦ ∃ w1, St Tryz.prog 3 w' (Addr.add a 2) (Value.int IntKind.i64 (i + (1 : Int))) w1 ∧ onP p fun a ↦ ∃ w1_1, St
 Tryz.prog 4 w1 (Addr.add a 4) (Value.bool true) w1_1 ∧ onP p fun a ↦ ∃ p, Ld Tryz.prog 37 w1_1 (Addr.add a 1) (Value.pointer p) ∧ R (Ending.returned (Value.tuple #[Value.pointer p,
 Value.int IntKind.i64 0])) w1_1))) (onP p_1 fun a ↦ ∃ i, Ld Tryz.prog 3 w' (Addr.add a 2) (Value.int IntKind.i64 i) ∧ inR IntKind.i64 (i + (1 : Int)) ∧ onP p_1 fun a ↦ ∃ w1, St
 Tryz.prog 3 w' (Addr.add a 2) (Value.int IntKind.i64 (i + (1 : Int))) w1 ∧ onP p_1 fun a ↦ ∃ w1_1, St Tryz.prog 4 w1 (Addr.add a 4) (Value.bool true) w1_1 ∧ onP p_1 fun a ↦ ∃ p, Ld
 Tryz.prog 37 w1_1 (Addr.add a 1) (Value.pointer p) ∧ R (Ending.returned (Value.tuple #[Value.pointer p, Value.int IntKind.i64 0])) w1_1)))
theorem fget.eq (p : Option Addr) (n : Int) (w : World) (R : Ending → World → Prop) : bodyV Tryz.prog fget.an Tryz.f15 [.pointer p, .int .i64 n] w R = fget.vc p n w R := by kernel_rfl
theorem fget.ok (p : Option Addr) (n : Int) (w : World) (R : Ending → World → Prop) (h : fget.vc p n w R) : Calls Tryz.prog 15 #[.pointer p, .int .i64 n] w R :=
  calls_of_bodyV noNum (an := fget.an) (args := [.pointer p, .int .i64 n]) Tryz.func15 (by kernel_rfl) ((fget.eq p n w R).mpr h)

/-- (*incunable/frames.Pool).Done -/
def fdone.an : An := { wraps := [], loops := [], joins := [], ranges := [] }
def fdone.vc (p : Option Addr) (n : Int) (changed : Bool) (w : World) (R : Ending → World → Prop) : Prop := CallV Tryz.prog 26 [Value.pointer p, Value.int IntKind.i64 n] w fun e w' ↦ ∃ p, e = Ending.returned (Value.pointer p) ∧ br (decide (n < (0 : Int))) (R (Ending.returned (Value.bool false)) w')
 (∃ b, Eqv Tryz.prog BinOp.eql 61 (Operand.tmp 14) (Operand.const (Value.pointer none)) w' (Value.pointer p) (Value.pointer none) b ∧ br b (R (Ending.returned (Value.bool false)) w') (onP p
 fun a ↦ ∃ i, Ld Tryz.prog 3 w' (Addr.add a 2) (Value.int IntKind.i64 i) ∧ br (decide (i = (0 : Int))) (R (Ending.returned (Value.bool false)) w') (onP p fun a ↦ ∃ i, Ld Tryz.prog 3
 w' (Addr.add a 2) (Value.int IntKind.i64 i) ∧ inR IntKind.i64 (i - (1 : Int)) ∧ onP p fun a ↦ ∃ w1, St Tryz.prog 3 w' (Addr.add a 2) (Value.int IntKind.i64 (i - (1 : Int))) w1 ∧ onP p fun a ↦
 ∃ b, Ld Tryz.prog 4 w1 (Addr.add a 3) (Value.bool b) ∧ br b (onP p fun a ↦ ∃ w1_1, St Tryz.prog 4 w1 (Addr.add a 3) (Value.bool true) w1_1 ∧ R (Ending.returned (Value.bool true))
 w1_1) (onP p fun a ↦ ∃ w1_1, St Tryz.prog 4 w1 (Addr.add a 3) (Value.bool changed) w1_1 ∧ R (Ending.returned (Value.bool true)) w1_1))))
theorem fdone.eq (p : Option Addr) (n : Int) (changed : Bool) (w : World) (R : Ending → World → Prop) : bodyV Tryz.prog fdone.an Tryz.f17 [.pointer p, .int .i64 n, .bool changed] w R = fdone.vc p n changed w R := by kernel_rfl
theorem fdone.ok (p : Option Addr) (n : Int) (changed : Bool) (w : World) (R : Ending → World → Prop) (h : fdone.vc p n changed w R) : Calls Tryz.prog 17 #[.pointer p, .int .i64 n, .bool changed] w R :=
  calls_of_bodyV noNum (an := fdone.an) (args := [.pointer p, .int .i64 n, .bool changed]) Tryz.func17 (by kernel_rfl) ((fdone.eq p n changed w R).mpr h)

/-- (*incunable/frames.Pool).Set -/
def fset.an : An := { wraps := [], loops := [], joins := [], ranges := [] }
def fset.vc (p : Option Addr) (n : Int) (page : Option Addr) (w : World) (R : Ending → World → Prop) : Prop := CallV Tryz.prog 26 [Value.pointer p, Value.int IntKind.i64 n] w fun e w' ↦ ∃ p_1, e = Ending.returned (Value.pointer p_1) ∧ br (decide (n < (0 : Int))) (R (Ending.returned (Value.int
 IntKind.i64 121)) w') (br (decide ((4096 : Int) ≤ n)) (R (Ending.returned (Value.int IntKind.i64 121)) w') (∃ b, Eqv Tryz.prog BinOp.neq 61 (Operand.tmp 21) (Operand.const (Value.pointer
 none)) w' (Value.pointer p_1) (Value.pointer none) b ∧ br b (onP p_1 fun a ↦ ∃ i, Ld Tryz.prog 3 w' (Addr.add a 2) (Value.int IntKind.i64 i) ∧ br (decide ((0 : Int) < i)) (R (Ending.returned
 (Value.int IntKind.i64 120)) w') (∃ b, Eqv Tryz.prog BinOp.eql 61 (Operand.tmp 31) (Operand.const (Value.pointer none)) w' (Value.pointer p_1) (Value.pointer none) b ∧ br b (CallV
 Tryz.prog 37 [Value.pointer p, Value.int IntKind.i64 n, Value.pointer none] w' fun e w' ↦ ∃ p i, e = Ending.returned (Value.tuple #[Value.pointer p, Value.int IntKind.i64 i]) ∧ br (!decide (i
 = (0 : Int))) (R (Ending.returned (Value.int IntKind.i64 i)) w') (CallV Tryz.prog 79 [Value.pointer page] w' fun e w' ↦ ∃ p_2, e = Ending.returned (Value.pointer p_2) ∧ onP p fun a ↦ ∃ w1, St
 Tryz.prog 37 w' (Addr.add a 1) (Value.pointer p_2) w1 ∧ onP p fun a ↦ ∃ w1_1, St Tryz.prog 4 w1 (Addr.add a 3) (Value.bool true) w1_1 ∧ onP p fun a ↦ ∃ w1, St Tryz.prog 4
 w1_1 (Addr.add a 4) (Value.bool true) w1 ∧ R (Ending.returned (Value.int IntKind.i64 0)) w1)) (CallV Tryz.prog 79 [Value.pointer page] w' fun e w' ↦ ∃ p, e = Ending.returned (Value.pointer p)
 ∧ onP p_1 fun a ↦ ∃ w1, St Tryz.prog 37 w' (Addr.add a 1) (Value.pointer p) w1 ∧ onP p_1 fun a ↦ ∃ w1_1, St Tryz.prog 4 w1 (Addr.add a 3) (Value.bool true) w1_1 ∧ onP p_1 fun a ↦ ∃
 w1, St Tryz.prog 4 w1_1 (Addr.add a 4) (Value.bool true) w1 ∧ R (Ending.returned (Value.int IntKind.i64 0)) w1))) (∃ b, Eqv Tryz.prog BinOp.eql 61 (Operand.tmp 31) (Operand.const
 (Value.pointer none)) w' (Value.pointer p_1) (Value.pointer none) b ∧ br b (CallV Tryz.prog 37 [Value.pointer p, Value.int IntKind.i64 n, Value.pointer none] w' fun e w' ↦ ∃ p i, e =
 Ending.returned (Value.tuple #[Value.pointer p, Value.int IntKind.i64 i]) ∧ br (!decide (i = (0 : Int))) (R (Ending.returned (Value.int IntKind.i64 i)) w') (CallV Tryz.prog 79 [Value.pointer
 page] w' fun e w' ↦ ∃ p_2, e = Ending.returned (Value.pointer p_2) ∧ onP p fun a ↦ ∃ w1, St Tryz.prog 37 w' (Addr.add a 1) (Value.pointer p_2) w1 ∧ onP p fun a ↦ ∃ w1_1, St Tryz.prog
 4 w1 (Addr.add a 3) (Value.bool true) w1_1 ∧ onP p fun a ↦ ∃ w1, St Tryz.prog 4 w1_1 (Addr.add a 4) (Value.bool true) w1 ∧ R (Ending.returned (Value.int IntKind.i64 0)) w1)) (CallV
 Tryz.prog 79 [Value.pointer page] w' fun e w' ↦ ∃ p, e = Ending.returned (Value.pointer p) ∧ onP p_1 fun a ↦ ∃ w1, St Tryz.prog 37 w' (Addr.add a 1) (Value.pointer p) w1 ∧ onP p_1
 fun a ↦ ∃ w1_1, St Tryz.prog 4 w1 (Addr.add a 3) (Value.bool true) w1_1 ∧ onP p_1 fun a ↦ ∃ w1, St Tryz.prog 4 w1_1 (Addr.add a 4) (Value.bool true) w1 ∧ R (Ending.returned
 (Value.int IntKind.i64 0)) w1))))
theorem fset.eq (p : Option Addr) (n : Int) (page : Option Addr) (w : World) (R : Ending → World → Prop) : bodyV Tryz.prog fset.an Tryz.f50 [.pointer p, .int .i64 n, .pointer page] w R = fset.vc p n page w R := by kernel_rfl
theorem fset.ok (p : Option Addr) (n : Int) (page : Option Addr) (w : World) (R : Ending → World → Prop) (h : fset.vc p n page w R) : Calls Tryz.prog 50 #[.pointer p, .int .i64 n, .pointer page] w R :=
  calls_of_bodyV noNum (an := fset.an) (args := [.pointer p, .int .i64 n, .pointer page]) Tryz.func50 (by kernel_rfl) ((fset.eq p n page w R).mpr h)

/-- (*incunable/frames.Pool).Flush -/
def fflush.an : An := { wraps := [], loops := [(4, [(13, .inl .i64)])], joins := [], ranges := [] }
def fflush.vc (p : Option Addr) (w : World) (R : Ending → World → Prop) : Prop := CallV Tryz.prog 23 [Value.pointer p, Value.func (Fn.func 24) #[] #[]] w fun e w' ↦ ∃ a l c, e = Ending.returned (Value.slice a l c) ∧ br (decide ((0 : Int) < (↑l : Int))) (R (Ending.returned
 (Value.int IntKind.i64 120)) w') (CallV Tryz.prog 11 [Value.pointer p] w' fun e w' ↦ ∃ a l c, e = Ending.returned (Value.slice a l c) ∧ LoopP (fun (s : Int) (w' : World) (next : Int → World →
 Prop) ↦ br (decide (s < (↑l : Int))) (onP a fun a ↦ ((0 : Int) ≤ s ∧ s < (↑l : Int)) ∧ ∃ i, Ld Tryz.prog 3 w' (Addr.add a (Int.toNat s * 1)) (Value.int IntKind.i64 i) ∧ CallV
 Tryz.prog 26 [Value.pointer p, Value.int IntKind.i64 i] w' fun e w' ↦ ∃ p_1, e = Ending.returned (Value.pointer p_1) ∧ CallV Tryz.prog 25 [Value.pointer p, Value.pointer p_1] w' fun
 e w' ↦ ∃ i, e = Ending.returned (Value.int IntKind.i64 i) ∧ br (!decide (i = (0 : Int))) (R (Ending.returned (Value.int IntKind.i64 i)) w') (inR IntKind.i64 (s + (1 : Int)) ∧ next (s + (1 : Int)) w'))
 (onP p fun a ↦ ∃ p_1, Ld Tryz.prog 35 (World.drew w') a (Value.pointer p_1) ∧ onP p fun a ↦ ∃ s, Ld Tryz.prog 9 (World.drew w') (Addr.add a 1) (Value.string s) ∧ CallV
 Tryz.prog 27 [Value.pointer p_1, Value.string s] (World.drew w') fun e w' ↦ ∃ i, e = Ending.returned (Value.int IntKind.i64 i) ∧ R (Ending.returned (Value.int IntKind.i64 i)) w')) (0 : Int)
 w')
theorem fflush.eq (p : Option Addr) (w : World) (R : Ending → World → Prop) : bodyV Tryz.prog fflush.an Tryz.f9 [.pointer p] w R = fflush.vc p w R := by kernel_rfl
theorem fflush.ok (p : Option Addr) (w : World) (R : Ending → World → Prop) (h : fflush.vc p w R) : Calls Tryz.prog 9 #[.pointer p] w R :=
  calls_of_bodyV noNum (an := fflush.an) (args := [.pointer p]) Tryz.func9 (by kernel_rfl) ((fflush.eq p w R).mpr h)

/-- (*incunable/frames.Pool).Flush$1 -/
def fflushC.an : An := { wraps := [], loops := [], joins := [], ranges := [] }
def fflushC.vc (f : Option Addr) (w : World) (R : Ending → World → Prop) : Prop := onP f fun a ↦ ∃ i, Ld Tryz.prog 3 w (Addr.add a 2) (Value.int IntKind.i64 i) ∧ R (Ending.returned (Value.bool (decide ((0 : Int) < i)))) w
theorem fflushC.eq (f : Option Addr) (w : World) (R : Ending → World → Prop) : bodyV Tryz.prog fflushC.an Tryz.f24 [.pointer f] w R = fflushC.vc f w R := by kernel_rfl
theorem fflushC.ok (f : Option Addr) (w : World) (R : Ending → World → Prop) (h : fflushC.vc f w R) : Calls Tryz.prog 24 #[.pointer f] w R :=
  calls_of_bodyV noNum (an := fflushC.an) (args := [.pointer f]) Tryz.func24 (by kernel_rfl) ((fflushC.eq f w R).mpr h)

/-- incunable/incunableref12.New -/
def qnew.an : An := { wraps := [], loops := [], joins := [], ranges := [] }
def qnew.vc (pages : Int) (many : Int) (w : World) (R : Ending → World → Prop) : Prop := ∀ b w1, New w (Obj.cells #[Value.slice none 0 0, Value.slice none 0 0, Value.int IntKind.i64 0] 30) b w1 → (∃ a n m w1_1, MkS Tryz.prog 28 (World.drew w1) (Value.int IntKind.i64 pages)
 (Value.int IntKind.i64 pages) (Value.slice a n m) w1_1 ∧ ∃ a_1 n_1 m_1 w1, MkS Tryz.prog 23 w1_1 (Value.int IntKind.i64 pages) (Value.int IntKind.i64 pages) (Value.slice a_1 n_1 m_1) w1 ∧ ∃
 w1_2, St Tryz.prog 30 w1 (Addr.mk b 0 none) (Value.agg #[Value.slice a n m, Value.slice a_1 n_1 m_1, Value.int IntKind.i64 many]) w1_2 ∧ ∃ a l c a_2 l_1 c_1 i, Ld Tryz.prog 30 w1_2
 (Addr.mk b 0 none) (Value.agg #[Value.slice a l c, Value.slice a_2 l_1 c_1, Value.int IntKind.i64 i]) ∧ R (Ending.returned (Value.agg #[Value.slice a l c, Value.slice a_2 l_1 c_1, Value.int
 IntKind.i64 i])) w1_2) ∧ ∃ a n m w1_1, MkS Tryz.prog 23 (World.drew w1) (Value.int IntKind.i64 pages) (Value.int IntKind.i64 pages) (Value.slice a n m) w1_1 ∧ ∃ a_1 n_1 m_1 w1, MkS
 Tryz.prog 28 w1_1 (Value.int IntKind.i64 pages) (Value.int IntKind.i64 pages) (Value.slice a_1 n_1 m_1) w1 ∧ ∃ w1_2, St Tryz.prog 30 w1 (Addr.mk b 0 none) (Value.agg #[Value.slice
 a_1 n_1 m_1, Value.slice a n m, Value.int IntKind.i64 many]) w1_2 ∧ ∃ a l c a_2 l_1 c_1 i, Ld Tryz.prog 30 w1_2 (Addr.mk b 0 none) (Value.agg #[Value.slice a l c, Value.slice a_2 l_1 c_1,
 Value.int IntKind.i64 i]) ∧ R (Ending.returned (Value.agg #[Value.slice a l c, Value.slice a_2 l_1 c_1, Value.int IntKind.i64 i])) w1_2
theorem qnew.eq (pages : Int) (many : Int) (w : World) (R : Ending → World → Prop) : bodyV Tryz.prog qnew.an Tryz.f8 [.int .i64 pages, .int .i64 many] w R = qnew.vc pages many w R := by kernel_rfl
theorem qnew.ok (pages : Int) (many : Int) (w : World) (R : Ending → World → Prop) (h : qnew.vc pages many w R) : Calls Tryz.prog 8 #[.int .i64 pages, .int .i64 many] w R :=
  calls_of_bodyV noNum (an := qnew.an) (args := [.int .i64 pages, .int .i64 many]) Tryz.func8 (by kernel_rfl) ((qnew.eq pages many w R).mpr h)

/-- incunable/incunableref12.pinned -/
def qpinned.an : An := { wraps := [], loops := [(3, [(3, .inl .i64), (4, .inl .i64)])], joins := [], ranges := [] }
def qpinned.vc (p_Pagesa : Option Addr) (p_Pagesn : Nat) (p_Pagesc : Nat) (p_Pinsa : Option Addr) (p_Pinsn : Nat) (p_Pinsc : Nat) (p_Many : Int) (w : World) (R : Ending → World → Prop) : Prop := ∀ b w1, New w (Obj.cells #[Value.slice p_Pagesa p_Pagesn p_Pagesc, Value.slice p_Pinsa p_Pinsn p_Pinsc, Value.int IntKind.i64 p_Many] 30) b w1 → LoopP (fun (s : Int × Int) (w' : World) (next : Int ×
 Int → World → Prop) ↦ ∃ a l c, Ld Tryz.prog 23 w' (Addr.mk b 1 none) (Value.slice a l c) ∧ br (decide (Prod.snd s < (↑l : Int))) (∃ a l c, Ld Tryz.prog 23 w' (Addr.mk b 1 none)
 (Value.slice a l c) ∧ onP a fun a ↦ ((0 : Int) ≤ Prod.snd s ∧ Prod.snd s < (↑l : Int)) ∧ ∃ i, Ld Tryz.prog 3 w' (Addr.add a (Int.toNat (Prod.snd s) * 1)) (Value.int IntKind.i64 i) ∧ br
 (decide ((0 : Int) < i)) (inR IntKind.i64 (Prod.fst s + (1 : Int)) ∧ inR IntKind.i64 (Prod.snd s + (1 : Int)) ∧ next (Prod.fst s + (1 : Int), Prod.snd s + (1 : Int)) w') (inR IntKind.i64 (Prod.snd s +
 (1 : Int)) ∧ next (Prod.fst s, Prod.snd s + (1 : Int)) w')) (R (Ending.returned (Value.int IntKind.i64 (Prod.fst s))) w')) ((0 : Int), (0 : Int)) w1
theorem qpinned.eq (p_Pagesa : Option Addr) (p_Pagesn : Nat) (p_Pagesc : Nat) (p_Pinsa : Option Addr) (p_Pinsn : Nat) (p_Pinsc : Nat) (p_Many : Int) (w : World) (R : Ending → World → Prop) : bodyV Tryz.prog qpinned.an Tryz.f41 [.agg #[.slice p_Pagesa p_Pagesn p_Pagesc, .slice p_Pinsa p_Pinsn p_Pinsc, .int .i64 p_Many]] w R = qpinned.vc p_Pagesa p_Pagesn p_Pagesc p_Pinsa p_Pinsn p_Pinsc p_Many w R := by kernel_rfl
theorem qpinned.ok (p_Pagesa : Option Addr) (p_Pagesn : Nat) (p_Pagesc : Nat) (p_Pinsa : Option Addr) (p_Pinsn : Nat) (p_Pinsc : Nat) (p_Many : Int) (w : World) (R : Ending → World → Prop) (h : qpinned.vc p_Pagesa p_Pagesn p_Pagesc p_Pinsa p_Pinsn p_Pinsc p_Many w R) : Calls Tryz.prog 41 #[.agg #[.slice p_Pagesa p_Pagesn p_Pagesc, .slice p_Pinsa p_Pinsn p_Pinsc, .int .i64 p_Many]] w R :=
  calls_of_bodyV noNum (an := qpinned.an) (args := [.agg #[.slice p_Pagesa p_Pagesn p_Pagesc, .slice p_Pinsa p_Pinsn p_Pinsc, .int .i64 p_Many]]) Tryz.func41 (by kernel_rfl) ((qpinned.eq p_Pagesa p_Pagesn p_Pagesc p_Pinsa p_Pinsn p_Pinsc p_Many w R).mpr h)

/-- incunable/incunableref12.in -/
def qin.an : An := { wraps := [], loops := [], joins := [], ranges := [] }
def qin.vc (p_Pagesa : Option Addr) (p_Pagesn : Nat) (p_Pagesc : Nat) (p_Pinsa : Option Addr) (p_Pinsn : Nat) (p_Pinsc : Nat) (p_Many : Int) (n : Int) (w : World) (R : Ending → World → Prop) : Prop := ∀ b w1, New w (Obj.cells #[Value.slice p_Pagesa p_Pagesn p_Pagesc, Value.slice p_Pinsa p_Pinsn p_Pinsc, Value.int IntKind.i64 p_Many] 30) b w1 → br (decide ((0 : Int) ≤ n)) (∃ a l c, Ld
 Tryz.prog 28 w1 (Addr.mk b 0 none) (Value.slice a l c) ∧ R (Ending.returned (Value.bool (decide (n < (↑l : Int))))) w1) (R (Ending.returned (Value.bool false)) w1)
theorem qin.eq (p_Pagesa : Option Addr) (p_Pagesn : Nat) (p_Pagesc : Nat) (p_Pinsa : Option Addr) (p_Pinsn : Nat) (p_Pinsc : Nat) (p_Many : Int) (n : Int) (w : World) (R : Ending → World → Prop) : bodyV Tryz.prog qin.an Tryz.f42 [.agg #[.slice p_Pagesa p_Pagesn p_Pagesc, .slice p_Pinsa p_Pinsn p_Pinsc, .int .i64 p_Many], .int .i64 n] w R = qin.vc p_Pagesa p_Pagesn p_Pagesc p_Pinsa p_Pinsn p_Pinsc p_Many n w R := by kernel_rfl
theorem qin.ok (p_Pagesa : Option Addr) (p_Pagesn : Nat) (p_Pagesc : Nat) (p_Pinsa : Option Addr) (p_Pinsn : Nat) (p_Pinsc : Nat) (p_Many : Int) (n : Int) (w : World) (R : Ending → World → Prop) (h : qin.vc p_Pagesa p_Pagesn p_Pagesc p_Pinsa p_Pinsn p_Pinsc p_Many n w R) : Calls Tryz.prog 42 #[.agg #[.slice p_Pagesa p_Pagesn p_Pagesc, .slice p_Pinsa p_Pinsn p_Pinsc, .int .i64 p_Many], .int .i64 n] w R :=
  calls_of_bodyV noNum (an := qin.an) (args := [.agg #[.slice p_Pagesa p_Pagesn p_Pagesc, .slice p_Pinsa p_Pinsn p_Pinsc, .int .i64 p_Many], .int .i64 n]) Tryz.func42 (by kernel_rfl) ((qin.eq p_Pagesa p_Pagesn p_Pagesc p_Pinsa p_Pinsn p_Pinsc p_Many n w R).mpr h)

/-- incunable/incunableref12.pins -/
def qpins.an : An := { wraps := [], loops := [], joins := [], ranges := [] }
def qpins.vc (p_Pagesa : Option Addr) (p_Pagesn : Nat) (p_Pagesc : Nat) (p_Pinsa : Option Addr) (p_Pinsn : Nat) (p_Pinsc : Nat) (p_Many : Int) (n : Int) (more : Int) (w : World) (R : Ending → World → Prop) : Prop := ∀ b w1, New w (Obj.cells #[Value.slice p_Pagesa p_Pagesn p_Pagesc, Value.slice p_Pinsa p_Pinsn p_Pinsc, Value.int IntKind.i64 p_Many] 30) b w1 → ∀ b_1 w1_1, New w1 (Obj.cells #[Value.slice none 0 0,
 Value.slice none 0 0, Value.int IntKind.i64 0] 30) b_1 w1_1 → ∀ b_2 w1, New w1_1 (Obj.cells #[] 3) b_2 w1 → ∃ a l c, Ld Tryz.prog 23 w1 (Addr.mk b 1 none) (Value.slice a l c) ∧ ∃ a_1 n_1 m
 w1_2, App Tryz.prog #[23, 23] 23 w1 (Value.slice (some (Addr.mk b_2 0 none)) 0 0) (Value.slice a l c) (Value.slice a_1 n_1 m) w1_2 ∧ onP a_1 fun a ↦ ((0 : Int) ≤ n ∧ n < (↑n_1 : Int)) ∧ ∃ i,
 Ld Tryz.prog 3 w1_2 (Addr.add a (Int.toNat n * 1)) (Value.int IntKind.i64 i) ∧ inR IntKind.i64 (i + more) ∧ onP a_1 fun a ↦ ((0 : Int) ≤ n ∧ n < (↑n_1 : Int)) ∧ ∃ w1, St Tryz.prog 3
 w1_2 (Addr.add a (Int.toNat n * 1)) (Value.int IntKind.i64 (i + more)) w1 ∧ ∃ w1_3, St Tryz.prog 23 w1 (Addr.mk b 1 none) (Value.slice a_1 n_1 m) w1_3 ∧ ∃ a l c a_2 l_1 c_1 i, Ld
 Tryz.prog 30 w1_3 (Addr.mk b 0 none) (Value.agg #[Value.slice a l c, Value.slice a_2 l_1 c_1, Value.int IntKind.i64 i]) ∧ ∃ w1, St Tryz.prog 30 w1_3 (Addr.mk b_1 0 none) (Value.agg
 #[Value.slice a l c, Value.slice a_2 l_1 c_1, Value.int IntKind.i64 i]) w1 ∧ ∃ a l c a_3 l_2 c_2 i, Ld Tryz.prog 30 w1 (Addr.mk b_1 0 none) (Value.agg #[Value.slice a l c, Value.slice a_3 l_2
 c_2, Value.int IntKind.i64 i]) ∧ R (Ending.returned (Value.agg #[Value.slice a l c, Value.slice a_3 l_2 c_2, Value.int IntKind.i64 i])) w1
theorem qpins.eq (p_Pagesa : Option Addr) (p_Pagesn : Nat) (p_Pagesc : Nat) (p_Pinsa : Option Addr) (p_Pinsn : Nat) (p_Pinsc : Nat) (p_Many : Int) (n : Int) (more : Int) (w : World) (R : Ending → World → Prop) : bodyV Tryz.prog qpins.an Tryz.f43 [.agg #[.slice p_Pagesa p_Pagesn p_Pagesc, .slice p_Pinsa p_Pinsn p_Pinsc, .int .i64 p_Many], .int .i64 n, .int .i64 more] w R = qpins.vc p_Pagesa p_Pagesn p_Pagesc p_Pinsa p_Pinsn p_Pinsc p_Many n more w R := by kernel_rfl
theorem qpins.ok (p_Pagesa : Option Addr) (p_Pagesn : Nat) (p_Pagesc : Nat) (p_Pinsa : Option Addr) (p_Pinsn : Nat) (p_Pinsc : Nat) (p_Many : Int) (n : Int) (more : Int) (w : World) (R : Ending → World → Prop) (h : qpins.vc p_Pagesa p_Pagesn p_Pagesc p_Pinsa p_Pinsn p_Pinsc p_Many n more w R) : Calls Tryz.prog 43 #[.agg #[.slice p_Pagesa p_Pagesn p_Pagesc, .slice p_Pinsa p_Pinsn p_Pinsc, .int .i64 p_Many], .int .i64 n, .int .i64 more] w R :=
  calls_of_bodyV noNum (an := qpins.an) (args := [.agg #[.slice p_Pagesa p_Pagesn p_Pagesc, .slice p_Pinsa p_Pinsn p_Pinsc, .int .i64 p_Many], .int .i64 n, .int .i64 more]) Tryz.func43 (by kernel_rfl) ((qpins.eq p_Pagesa p_Pagesn p_Pagesc p_Pinsa p_Pinsn p_Pinsc p_Many n more w R).mpr h)

/-- incunable/incunableref12.laid -/
def qlaid.an : An := { wraps := [], loops := [], joins := [], ranges := [] }
def qlaid.vc (p_Pagesa : Option Addr) (p_Pagesn : Nat) (p_Pagesc : Nat) (p_Pinsa : Option Addr) (p_Pinsn : Nat) (p_Pinsc : Nat) (p_Many : Int) (n : Int) (x_La : Option Addr) (x_Ln : Nat) (x_Lc : Nat) (x_Stamp : Int) (w : World) (R : Ending → World → Prop) : Prop := ∀ b w1, New w (Obj.cells #[Value.slice p_Pagesa p_Pagesn p_Pagesc, Value.slice p_Pinsa p_Pinsn p_Pinsc, Value.int IntKind.i64 p_Many] 30) b w1 → ∀ b_1 w1_1, New w1 (Obj.cells #[Value.slice x_La x_Ln
 x_Lc, Value.int IntKind.i64 x_Stamp] 88) b_1 w1_1 → ∀ b_2 w1, New w1_1 (Obj.cells #[Value.slice none 0 0, Value.slice none 0 0, Value.int IntKind.i64 0] 30) b_2 w1 → ∀ b_3 w1_2, New w1 (Obj.cells #[]
 88) b_3 w1_2 → ∃ a l c, Ld Tryz.prog 28 w1_2 (Addr.mk b 0 none) (Value.slice a l c) ∧ ∃ a_1 n_1 m w1, App Tryz.prog #[28, 28] 28 w1_2 (Value.slice (some (Addr.mk b_3 0 none)) 0 0)
 (Value.slice a l c) (Value.slice a_1 n_1 m) w1 ∧ ∃ a l c i, Ld Tryz.prog 88 w1 (Addr.mk b_1 0 none) (Value.agg #[Value.slice a l c, Value.int IntKind.i64 i]) ∧ onP a_1 fun a_2 ↦ ((0 : Int) ≤
 n ∧ n < (↑n_1 : Int)) ∧ ∃ w1_3, St Tryz.prog 88 w1 (Addr.add a_2 (Int.toNat n * 2)) (Value.agg #[Value.slice a l c, Value.int IntKind.i64 i]) w1_3 ∧ ∃ w1, St Tryz.prog 28 w1_3
 (Addr.mk b 0 none) (Value.slice a_1 n_1 m) w1 ∧ ∃ a l c a_3 l_1 c_1 i, Ld Tryz.prog 30 w1 (Addr.mk b 0 none) (Value.agg #[Value.slice a l c, Value.slice a_3 l_1 c_1, Value.int IntKind.i64 i])
 ∧ ∃ w1_4, St Tryz.prog 30 w1 (Addr.mk b_2 0 none) (Value.agg #[Value.slice a l c, Value.slice a_3 l_1 c_1, Value.int IntKind.i64 i]) w1_4 ∧ ∃ a l c a_4 l_2 c_2 i, Ld Tryz.prog 30
 w1_4 (Addr.mk b_2 0 none) (Value.agg #[Value.slice a l c, Value.slice a_4 l_2 c_2, Value.int IntKind.i64 i]) ∧ R (Ending.returned (Value.agg #[Value.slice a l c, Value.slice a_4 l_2 c_2, Value.int
 IntKind.i64 i])) w1_4
theorem qlaid.eq (p_Pagesa : Option Addr) (p_Pagesn : Nat) (p_Pagesc : Nat) (p_Pinsa : Option Addr) (p_Pinsn : Nat) (p_Pinsc : Nat) (p_Many : Int) (n : Int) (x_La : Option Addr) (x_Ln : Nat) (x_Lc : Nat) (x_Stamp : Int) (w : World) (R : Ending → World → Prop) : bodyV Tryz.prog qlaid.an Tryz.f45 [.agg #[.slice p_Pagesa p_Pagesn p_Pagesc, .slice p_Pinsa p_Pinsn p_Pinsc, .int .i64 p_Many], .int .i64 n, .agg #[.slice x_La x_Ln x_Lc, .int .i64 x_Stamp]] w R = qlaid.vc p_Pagesa p_Pagesn p_Pagesc p_Pinsa p_Pinsn p_Pinsc p_Many n x_La x_Ln x_Lc x_Stamp w R := by kernel_rfl
theorem qlaid.ok (p_Pagesa : Option Addr) (p_Pagesn : Nat) (p_Pagesc : Nat) (p_Pinsa : Option Addr) (p_Pinsn : Nat) (p_Pinsc : Nat) (p_Many : Int) (n : Int) (x_La : Option Addr) (x_Ln : Nat) (x_Lc : Nat) (x_Stamp : Int) (w : World) (R : Ending → World → Prop) (h : qlaid.vc p_Pagesa p_Pagesn p_Pagesc p_Pinsa p_Pinsn p_Pinsc p_Many n x_La x_Ln x_Lc x_Stamp w R) : Calls Tryz.prog 45 #[.agg #[.slice p_Pagesa p_Pagesn p_Pagesc, .slice p_Pinsa p_Pinsn p_Pinsc, .int .i64 p_Many], .int .i64 n, .agg #[.slice x_La x_Ln x_Lc, .int .i64 x_Stamp]] w R :=
  calls_of_bodyV noNum (an := qlaid.an) (args := [.agg #[.slice p_Pagesa p_Pagesn p_Pagesc, .slice p_Pinsa p_Pinsn p_Pinsc, .int .i64 p_Many], .int .i64 n, .agg #[.slice x_La x_Ln x_Lc, .int .i64 x_Stamp]]) Tryz.func45 (by kernel_rfl) ((qlaid.eq p_Pagesa p_Pagesn p_Pagesc p_Pinsa p_Pinsn p_Pinsc p_Many n x_La x_Ln x_Lc x_Stamp w R).mpr h)

/-- incunable/incunableref12.Do -/
def qdo.an : An := { wraps := [], loops := [], joins := [], ranges := [] }
def qdo.vc (p_Pagesa : Option Addr) (p_Pagesn : Nat) (p_Pagesc : Nat) (p_Pinsa : Option Addr) (p_Pinsn : Nat) (p_Pinsc : Nat) (p_Many : Int) (o_Kind : Int) (o_N : Int) (o_Changed : Bool) (o_O_Kind : Int) (o_O_Slot : Int) (o_O_N : Int) (o_O_S : ByteArray) (o_S : ByteArray) (o_Stamp : Int) (w : World) (R : Ending → World → Prop) : Prop := ∀ b w1, New w (Obj.cells #[Value.slice p_Pagesa p_Pagesn p_Pagesc, Value.slice p_Pinsa p_Pinsn p_Pinsc, Value.int IntKind.i64 p_Many] 30) b w1 → ∀ b_1 w1_1, New w1 (Obj.cells #[Value.int IntKind.i64
 o_Kind, Value.int IntKind.i64 o_N, Value.bool o_Changed, Value.int IntKind.i64 o_O_Kind, Value.int IntKind.i64 o_O_Slot, Value.int IntKind.i64 o_O_N, Value.string o_O_S, Value.string o_S, Value.int
 IntKind.i64 o_Stamp] 49) b_1 w1_1 → ∀ b_2 w1, New w1_1 (Obj.cells #[Value.slice none 0 0, Value.slice none 0 0, Value.int IntKind.i64 0] 30) b_2 w1 → ∃ i, Ld Tryz.prog 3 w1 (Addr.mk b_1 0
 none) (Value.int IntKind.i64 i) ∧ br (decide (i < (0 : Int))) (∃ a l c a_1 l_1 c_1 i, Ld Tryz.prog 30 w1 (Addr.mk b 0 none) (Value.agg #[Value.slice a l c, Value.slice a_1 l_1 c_1, Value.int
 IntKind.i64 i]) ∧ ∃ w1_2, St Tryz.prog 30 w1 (Addr.mk b_2 0 none) (Value.agg #[Value.slice a l c, Value.slice a_1 l_1 c_1, Value.int IntKind.i64 i]) w1_2 ∧ ∃ a l c a_2 l_2 c_2 i, Ld
 Tryz.prog 30 w1_2 (Addr.mk b_2 0 none) (Value.agg #[Value.slice a l c, Value.slice a_2 l_2 c_2, Value.int IntKind.i64 i]) ∧ R (Ending.returned (Value.tuple #[Value.agg #[Value.slice a l c,
 Value.slice a_2 l_2 c_2, Value.int IntKind.i64 i], Value.int IntKind.i64 0])) w1_2) (∃ i, Ld Tryz.prog 3 w1 (Addr.mk b_1 0 none) (Value.int IntKind.i64 i) ∧ br (decide ((4 : Int) < i)) (∃ a l
 c a_1 l_1 c_1 i, Ld Tryz.prog 30 w1 (Addr.mk b 0 none) (Value.agg #[Value.slice a l c, Value.slice a_1 l_1 c_1, Value.int IntKind.i64 i]) ∧ ∃ w1_2, St Tryz.prog 30 w1 (Addr.mk b_2 0
 none) (Value.agg #[Value.slice a l c, Value.slice a_1 l_1 c_1, Value.int IntKind.i64 i]) w1_2 ∧ ∃ a l c a_2 l_2 c_2 i, Ld Tryz.prog 30 w1_2 (Addr.mk b_2 0 none) (Value.agg #[Value.slice a l
 c, Value.slice a_2 l_2 c_2, Value.int IntKind.i64 i]) ∧ R (Ending.returned (Value.tuple #[Value.agg #[Value.slice a l c, Value.slice a_2 l_2 c_2, Value.int IntKind.i64 i], Value.int IntKind.i64 0]))
 w1_2) (∃ i, Ld Tryz.prog 3 w1 (Addr.mk b_1 0 none) (Value.int IntKind.i64 i) ∧ br (decide (i = (3 : Int))) (∃ a l c a_1 l_1 c_1 i, Ld Tryz.prog 30 w1 (Addr.mk b 0 none) (Value.agg
 #[Value.slice a l c, Value.slice a_1 l_1 c_1, Value.int IntKind.i64 i]) ∧ CallV Tryz.prog 41 [Value.agg #[Value.slice a l c, Value.slice a_1 l_1 c_1, Value.int IntKind.i64 i]] w1 fun e w' ↦ ∃
 i, e = Ending.returned (Value.int IntKind.i64 i) ∧ br (decide ((0 : Int) < i)) (∃ a l c a_2 l_2 c_2 i, Ld Tryz.prog 30 w' (Addr.mk b 0 none) (Value.agg #[Value.slice a l c, Value.slice a_2
 l_2 c_2, Value.int IntKind.i64 i]) ∧ ∃ w1, St Tryz.prog 30 w' (Addr.mk b_2 0 none) (Value.agg #[Value.slice a l c, Value.slice a_2 l_2 c_2, Value.int IntKind.i64 i]) w1 ∧ ∃ a l c a_3 l_3 c_3
 i, Ld Tryz.prog 30 w1 (Addr.mk b_2 0 none) (Value.agg #[Value.slice a l c, Value.slice a_3 l_3 c_3, Value.int IntKind.i64 i]) ∧ R (Ending.returned (Value.tuple #[Value.agg #[Value.slice a l
 c, Value.slice a_3 l_3 c_3, Value.int IntKind.i64 i], Value.int IntKind.i64 120])) w1) (∃ a l c a_2 l_2 c_2 i, Ld Tryz.prog 30 w' (Addr.mk b 0 none) (Value.agg #[Value.slice a l c,
 Value.slice a_2 l_2 c_2, Value.int IntKind.i64 i]) ∧ ∃ w1, St Tryz.prog 30 w' (Addr.mk b_2 0 none) (Value.agg #[Value.slice a l c, Value.slice a_2 l_2 c_2, Value.int IntKind.i64 i]) w1 ∧ ∃ a
 l c a_3 l_3 c_3 i, Ld Tryz.prog 30 w1 (Addr.mk b_2 0 none) (Value.agg #[Value.slice a l c, Value.slice a_3 l_3 c_3, Value.int IntKind.i64 i]) ∧ R (Ending.returned (Value.tuple #[Value.agg
 #[Value.slice a l c, Value.slice a_3 l_3 c_3, Value.int IntKind.i64 i], Value.int IntKind.i64 0])) w1)) (∃ a l c a_1 l_1 c_1 i, Ld Tryz.prog 30 w1 (Addr.mk b 0 none) (Value.agg #[Value.slice
 a l c, Value.slice a_1 l_1 c_1, Value.int IntKind.i64 i]) ∧ ∃ i_1, Ld Tryz.prog 3 w1 (Addr.mk b_1 1 none) (Value.int IntKind.i64 i_1) ∧ CallV Tryz.prog 42 [Value.agg #[Value.slice a
 l c, Value.slice a_1 l_1 c_1, Value.int IntKind.i64 i], Value.int IntKind.i64 i_1] w1 fun e w' ↦ ∃ b_3, e = Ending.returned (Value.bool b_3) ∧ br (!b_3) (∃ i, Ld Tryz.prog 3 w' (Addr.mk b_1 0
 none) (Value.int IntKind.i64 i) ∧ br (decide (i = (1 : Int))) (∃ a l c a_2 l_2 c_2 i, Ld Tryz.prog 30 w' (Addr.mk b 0 none) (Value.agg #[Value.slice a l c, Value.slice a_2 l_2 c_2, Value.int
 IntKind.i64 i]) ∧ ∃ w1, St Tryz.prog 30 w' (Addr.mk b_2 0 none) (Value.agg #[Value.slice a l c, Value.slice a_2 l_2 c_2, Value.int IntKind.i64 i]) w1 ∧ ∃ a l c a_3 l_3 c_3 i, Ld
 Tryz.prog 30 w1 (Addr.mk b_2 0 none) (Value.agg #[Value.slice a l c, Value.slice a_3 l_3 c_3, Value.int IntKind.i64 i]) ∧ R (Ending.returned (Value.tuple #[Value.agg #[Value.slice a l c,
 Value.slice a_3 l_3 c_3, Value.int IntKind.i64 i], Value.int IntKind.i64 1])) w1) (∃ i, Ld Tryz.prog 3 w' (Addr.mk b_1 0 none) (Value.int IntKind.i64 i) ∧ br (decide (i = (2 : Int))) (∃ a l c
 a_2 l_2 c_2 i, Ld Tryz.prog 30 w' (Addr.mk b 0 none) (Value.agg #[Value.slice a l c, Value.slice a_2 l_2 c_2, Value.int IntKind.i64 i]) ∧ ∃ w1, St Tryz.prog 30 w' (Addr.mk b_2 0
 none) (Value.agg #[Value.slice a l c, Value.slice a_2 l_2 c_2, Value.int IntKind.i64 i]) w1 ∧ ∃ a l c a_3 l_3 c_3 i, Ld Tryz.prog 30 w1 (Addr.mk b_2 0 none) (Value.agg #[Value.slice a l c,
 Value.slice a_3 l_3 c_3, Value.int IntKind.i64 i]) ∧ R (Ending.returned (Value.tuple #[Value.agg #[Value.slice a l c, Value.slice a_3 l_3 c_3, Value.int IntKind.i64 i], Value.int IntKind.i64 1])) w1)
 (∃ a l c a_2 l_2 c_2 i, Ld Tryz.prog 30 w' (Addr.mk b 0 none) (Value.agg #[Value.slice a l c, Value.slice a_2 l_2 c_2, Value.int IntKind.i64 i]) ∧ ∃ w1, St Tryz.prog 30 w' (Addr.mk
 b_2 0 none) (Value.agg #[Value.slice a l c, Value.slice a_2 l_2 c_2, Value.int IntKind.i64 i]) w1 ∧ ∃ a l c a_3 l_3 c_3 i, Ld Tryz.prog 30 w1 (Addr.mk b_2 0 none) (Value.agg #[Value.slice a l
 c, Value.slice a_3 l_3 c_3, Value.int IntKind.i64 i]) ∧ R (Ending.returned (Value.tuple #[Value.agg #[Value.slice a l c, Value.slice a_3 l_3 c_3, Value.int IntKind.i64 i], Value.int IntKind.i64 121]))
 w1))) (∃ i, Ld Tryz.prog 3 w' (Addr.mk b_1 0 none) (Value.int IntKind.i64 i) ∧ br (decide (i = (0 : Int))) (∃ a l c, Ld Tryz.prog 23 (World.drew w') (Addr.mk b 1 none) (Value.slice a
 l c) ∧ ∃ i, Ld Tryz.prog 3 (World.drew w') (Addr.mk b_1 1 none) (Value.int IntKind.i64 i) ∧ onP a fun a ↦ ((0 : Int) ≤ i ∧ i < (↑l : Int)) ∧ ∃ i_2, Ld Tryz.prog 3 (World.drew w')
 (Addr.add a (Int.toNat i * 1)) (Value.int IntKind.i64 i_2) ∧ br (decide (i_2 = (0 : Int))) (∃ a l c a_2 l_2 c_2 i, Ld Tryz.prog 30 (World.drew w') (Addr.mk b 0 none) (Value.agg #[Value.slice
 a l c, Value.slice a_2 l_2 c_2, Value.int IntKind.i64 i]) ∧ ∃ i_3, Ld Tryz.prog 3 (World.drew w') (Addr.mk b 2 none) (Value.int IntKind.i64 i_3) ∧ CallV Tryz.prog 41 [Value.agg
 #[Value.slice a l c, Value.slice a_2 l_2 c_2, Value.int IntKind.i64 i]] (World.drew w') fun e w' ↦ ∃ i, e = Ending.returned (Value.int IntKind.i64 i) ∧ Ld Tryz.prog 3 w' (Addr.mk b 2 none)
 (Value.int IntKind.i64 i_3) ∧ br (decide (i_3 ≤ i)) (∃ a l c a_3 l_3 c_3 i, Ld Tryz.prog 30 w' (Addr.mk b 0 none) (Value.agg #[Value.slice a l c, Value.slice a_3 l_3 c_3, Value.int
 IntKind.i64 i]) ∧ ∃ w1, St Tryz.prog 30 w' (Addr.mk b_2 0 none) (Value.agg #[Value.slice a l c, Value.slice a_3 l_3 c_3, Value.int IntKind.i64 i]) w1 ∧ ∃ a l c a_4 l_4 c_4 i, Ld
 Tryz.prog 30 w1 (Addr.mk b_2 0 none) (Value.agg #[Value.slice a l c, Value.slice a_4 l_4 c_4, Value.int IntKind.i64 i]) ∧ R (Ending.returned (Value.tuple #[Value.agg #[Value.slice a l c,
 Value.slice a_4 l_4 c_4, Value.int IntKind.i64 i], Value.int IntKind.i64 120])) w1) (∃ a l c a_3 l_3 c_3 i, Ld Tryz.prog 30 w' (Addr.mk b 0 none) (Value.agg #[Value.slice a l c, Value.slice
 a_3 l_3 c_3, Value.int IntKind.i64 i]) ∧ ∃ i_4, Ld Tryz.prog 3 w' (Addr.mk b_1 1 none) (Value.int IntKind.i64 i_4) ∧ CallV Tryz.prog 43 [Value.agg #[Value.slice a l c, Value.slice
 a_3 l_3 c_3, Value.int IntKind.i64 i], Value.int IntKind.i64 i_4, Value.int IntKind.i64 1] w' fun e w' ↦ ∃ a l c a_4 l_4 c_4 i, e = Ending.returned (Value.agg #[Value.slice a l c, Value.slice a_4 l_4
 c_4, Value.int IntKind.i64 i]) ∧ ∃ w1, St Tryz.prog 30 w' (Addr.mk b_2 0 none) (Value.agg #[Value.slice a l c, Value.slice a_4 l_4 c_4, Value.int IntKind.i64 i]) w1 ∧ ∃ a l c a_5 l_5 c_5 i,
 Ld Tryz.prog 30 w1 (Addr.mk b_2 0 none) (Value.agg #[Value.slice a l c, Value.slice a_5 l_5 c_5, Value.int IntKind.i64 i]) ∧ R (Ending.returned (Value.tuple #[Value.agg #[Value.slice a l c,
 Value.slice a_5 l_5 c_5, Value.int IntKind.i64 i], Value.int IntKind.i64 0])) w1)) (∃ a l c a_2 l_2 c_2 i, Ld Tryz.prog 30 (World.drew w') (Addr.mk b 0 none) (Value.agg #[Value.slice a l c,
 Value.slice a_2 l_2 c_2, Value.int IntKind.i64 i]) ∧ ∃ i_3, Ld Tryz.prog 3 (World.drew w') (Addr.mk b_1 1 none) (Value.int IntKind.i64 i_3) ∧ CallV Tryz.prog 43 [Value.agg
 #[Value.slice a l c, Value.slice a_2 l_2 c_2, Value.int IntKind.i64 i], Value.int IntKind.i64 i_3, Value.int IntKind.i64 1] (World.drew w') fun e w' ↦ ∃ a l c a_3 l_3 c_3 i, e = Ending.returned
 (Value.agg #[Value.slice a l c, Value.slice a_3 l_3 c_3, Value.int IntKind.i64 i]) ∧ ∃ w1, St Tryz.prog 30 w' (Addr.mk b_2 0 none) (Value.agg #[Value.slice a l c, Value.slice a_3 l_3 c_3,
 Value.int IntKind.i64 i]) w1 ∧ ∃ a l c a_4 l_4 c_4 i, Ld Tryz.prog 30 w1 (Addr.mk b_2 0 none) (Value.agg #[Value.slice a l c, Value.slice a_4 l_4 c_4, Value.int IntKind.i64 i]) ∧ R
 (Ending.returned (Value.tuple #[Value.agg #[Value.slice a l c, Value.slice a_4 l_4 c_4, Value.int IntKind.i64 i], Value.int IntKind.i64 0])) w1)) (br (decide (i = (1 : Int))) (∃ a l c, Ld
 Tryz.prog 23 w' (Addr.mk b 1 none) (Value.slice a l c) ∧ ∃ i, Ld Tryz.prog 3 w' (Addr.mk b_1 1 none) (Value.int IntKind.i64 i) ∧ onP a fun a ↦ ((0 : Int) ≤ i ∧ i < (↑l : Int)) ∧ ∃
 i_2, Ld Tryz.prog 3 w' (Addr.add a (Int.toNat i * 1)) (Value.int IntKind.i64 i_2) ∧ br (decide (i_2 = (0 : Int))) (∃ a l c a_2 l_2 c_2 i, Ld Tryz.prog 30 w' (Addr.mk b 0 none)
 (Value.agg #[Value.slice a l c, Value.slice a_2 l_2 c_2, Value.int IntKind.i64 i]) ∧ ∃ w1, St Tryz.prog 30 w' (Addr.mk b_2 0 none) (Value.agg #[Value.slice a l c, Value.slice a_2 l_2 c_2,
 Value.int IntKind.i64 i]) w1 ∧ ∃ a l c a_3 l_3 c_3 i, Ld Tryz.prog 30 w1 (Addr.mk b_2 0 none) (Value.agg #[Value.slice a l c, Value.slice a_3 l_3 c_3, Value.int IntKind.i64 i]) ∧ R
 (Ending.returned (Value.tuple #[Value.agg #[Value.slice a l c, Value.slice a_3 l_3 c_3, Value.int IntKind.i64 i], Value.int IntKind.i64 1])) w1) (∃ a l c a_2 l_2 c_2 i, Ld Tryz.prog 30 w'
 (Addr.mk b 0 none) (Value.agg #[Value.slice a l c, Value.slice a_2 l_2 c_2, Value.int IntKind.i64 i]) ∧ ∃ i_3, Ld Tryz.prog 3 w' (Addr.mk b_1 1 none) (Value.int IntKind.i64 i_3) ∧ CallV
 Tryz.prog 43 [Value.agg #[Value.slice a l c, Value.slice a_2 l_2 c_2, Value.int IntKind.i64 i], Value.int IntKind.i64 i_3, Value.int IntKind.i64 (-1 : Int)] w' fun e w' ↦ ∃ a l c a_3 l_3 c_3
 i, e = Ending.returned (Value.agg #[Value.slice a l c, Value.slice a_3 l_3 c_3, Value.int IntKind.i64 i]) ∧ ∃ w1, St Tryz.prog 30 w' (Addr.mk b_2 0 none) (Value.agg #[Value.slice a l c,
 Value.slice a_3 l_3 c_3, Value.int IntKind.i64 i]) w1 ∧ ∃ a l c a_4 l_4 c_4 i, Ld Tryz.prog 30 w1 (Addr.mk b_2 0 none) (Value.agg #[Value.slice a l c, Value.slice a_4 l_4 c_4, Value.int
 IntKind.i64 i]) ∧ R (Ending.returned (Value.tuple #[Value.agg #[Value.slice a l c, Value.slice a_4 l_4 c_4, Value.int IntKind.i64 i], Value.int IntKind.i64 0])) w1)) (br (decide (i = (2 : Int))) (∃ a
 l c, Ld Tryz.prog 23 w' (Addr.mk b 1 none) (Value.slice a l c) ∧ ∃ i, Ld Tryz.prog 3 w' (Addr.mk b_1 1 none) (Value.int IntKind.i64 i) ∧ onP a fun a ↦ ((0 : Int) ≤ i ∧ i < (↑l :
 Int)) ∧ ∃ i_2, Ld Tryz.prog 3 w' (Addr.add a (Int.toNat i * 1)) (Value.int IntKind.i64 i_2) ∧ br (decide (i_2 = (0 : Int))) (∃ a l c a_2 l_2 c_2 i, Ld Tryz.prog 30 w' (Addr.mk b 0
 none) (Value.agg #[Value.slice a l c, Value.slice a_2 l_2 c_2, Value.int IntKind.i64 i]) ∧ ∃ w1, St Tryz.prog 30 w' (Addr.mk b_2 0 none) (Value.agg #[Value.slice a l c, Value.slice a_2 l_2
 c_2, Value.int IntKind.i64 i]) w1 ∧ ∃ a l c a_3 l_3 c_3 i, Ld Tryz.prog 30 w1 (Addr.mk b_2 0 none) (Value.agg #[Value.slice a l c, Value.slice a_3 l_3 c_3, Value.int IntKind.i64 i]) ∧ R
 (Ending.returned (Value.tuple #[Value.agg #[Value.slice a l c, Value.slice a_3 l_3 c_3, Value.int IntKind.i64 i], Value.int IntKind.i64 1])) w1) ((∃ a l c, Ld Tryz.prog 28 (World.drew w')
 (Addr.mk b 0 none) (Value.slice a l c) ∧ ∃ i, Ld Tryz.prog 3 (World.drew w') (Addr.mk b_1 1 none) (Value.int IntKind.i64 i) ∧ onP a fun a ↦ ((0 : Int) ≤ i ∧ i < (↑l : Int)) ∧ ∃ a_2 l c i_3,
 Ld Tryz.prog 88 (World.drew w') (Addr.add a (Int.toNat i * 2)) (Value.agg #[Value.slice a_2 l c, Value.int IntKind.i64 i_3]) ∧ ∃ i i_4 i_5 s, Ld Tryz.prog 47 (World.drew w') (Addr.mk
 b_1 3 none) (Value.agg #[Value.int IntKind.i64 i, Value.int IntKind.i64 i_4, Value.int IntKind.i64 i_5, Value.string s]) ∧ CallV Tryz.prog 44 [Value.agg #[Value.slice a_2 l c, Value.int
 IntKind.i64 i_3], Value.agg #[Value.int IntKind.i64 i, Value.int IntKind.i64 i_4, Value.int IntKind.i64 i_5, Value.string s]] (World.drew w') fun e w' ↦ ∃ a l c i i_6 i_7, e = Ending.returned
 (Value.tuple #[Value.agg #[Value.slice a l c, Value.int IntKind.i64 i], Value.int IntKind.i64 i_6, Value.int IntKind.i64 i_7]) ∧ ∀ b_4 w1, New w' (Obj.cells #[Value.slice none 0 0, Value.int
 IntKind.i64 0] 88) b_4 w1 → ∃ w1_2, St Tryz.prog 88 w1 (Addr.mk b_4 0 none) (Value.agg #[Value.slice a l c, Value.int IntKind.i64 i]) w1_2 ∧ ∃ a l c a_4 l_2 c_2 i, Ld Tryz.prog 30
 w1_2 (Addr.mk b 0 none) (Value.agg #[Value.slice a l c, Value.slice a_4 l_2 c_2, Value.int IntKind.i64 i]) ∧ ∃ i_8, Ld Tryz.prog 3 w1_2 (Addr.mk b_1 1 none) (Value.int IntKind.i64 i_8) ∧ ∃
 a_5 l_3 c_3 i_9, Ld Tryz.prog 88 w1_2 (Addr.mk b_4 0 none) (Value.agg #[Value.slice a_5 l_3 c_3, Value.int IntKind.i64 i_9]) ∧ CallV Tryz.prog 45 [Value.agg #[Value.slice a l c,
 Value.slice a_4 l_2 c_2, Value.int IntKind.i64 i], Value.int IntKind.i64 i_8, Value.agg #[Value.slice a_5 l_3 c_3, Value.int IntKind.i64 i_9]] w1_2 fun (e : Ending) (w' : World) ↦ ∃ (a : Option Addr),
 ∃ l c, ∃ (a_6 : Option Addr), ∃ (l_4 : Nat), ∃ (c_4 : Nat), ∃ (i : Int), e = Ending.returned (Value.agg #[Value.slice a l c, Value.slice a_6 l_4 c_4, Value.int IntKind.i64 i]) ∧ ∃ (w1 : World), St
 Tryz.prog 30 w' (Addr.mk b_2 0 none) (Value.agg #[Value.slice a l c, Value.slice a_6 l_4 c_4, Value.int IntKind.i64 i]) w1 ∧ ∃ (a : Option Addr), ∃ (l : Nat), ∃ (c : Nat), ∃ (a_7 : Option
 Addr), ∃ (l_5 : Nat), ∃ (c_5 : Nat), ∃ (i : Int), Ld Tryz.prog 30 w1 (Addr.mk b_2 0 none) (Value.agg #[Value.slice a l c, Value.slice a_7 l_5 c_5, Value.int IntKind.i64 i]) ∧ R
 (Ending.returned (Value.tuple #[Value.agg #[Value.slice a l c, Value.slice a_7 l_5 c_5, Value.int IntKind.i64 i], Value.int IntKind.i64 i_7])) w1) ∧ ∃ a l c, Ld Tryz.prog 28 (World.drew w')
 (Addr.mk b 0 none) (Value.slice a l c) ∧ ∃ i, Ld Tryz.prog 3 (World.drew w') (Addr.mk b_1 1 none) (Value.int IntKind.i64 i) ∧ onP a fun a_2 ↦ ((0 : Int) ≤ i ∧ i < (↑l : Int)) ∧ ∃ a_3 l_2 c_2
 i_3, Ld Tryz.prog 88 (World.drew w') (Addr.add a_2 (Int.toNat i * 2)) (Value.agg #[Value.slice a_3 l_2 c_2, Value.int IntKind.i64 i_3]) ∧ ∃ i_4 i_5 i_6 s, Ld Tryz.prog 47 (World.drew
 w') (Addr.mk b_1 3 none) (Value.agg #[Value.int IntKind.i64 i_4, Value.int IntKind.i64 i_5, Value.int IntKind.i64 i_6, Value.string s]) ∧ ∀ b_4 w1, New (World.drew w') (Obj.cells #[Value.slice none 0
 0, Value.int IntKind.i64 0] 88) b_4 w1 → Ld Tryz.prog 47 w1 (Addr.mk b_1 3 none) (Value.agg #[Value.int IntKind.i64 i_4, Value.int IntKind.i64 i_5, Value.int IntKind.i64 i_6, Value.string s])
 ∧ Ld Tryz.prog 88 w1 (Addr.add a_2 (Int.toNat i * 2)) (Value.agg #[Value.slice a_3 l_2 c_2, Value.int IntKind.i64 i_3]) ∧ Ld Tryz.prog 3 w1 (Addr.mk b_1 1 none) (Value.int
 IntKind.i64 i) ∧ Ld Tryz.prog 28 w1 (Addr.mk b 0 none) (Value.slice a l c) ∧ CallV Tryz.prog 44 [Value.agg #[Value.slice a_3 l_2 c_2, Value.int IntKind.i64 i_3], Value.agg
 #[Value.int IntKind.i64 i_4, Value.int IntKind.i64 i_5, Value.int IntKind.i64 i_6, Value.string s]] w1 fun e w' ↦ ∃ a l c i i_7 i_8, e = Ending.returned (Value.tuple #[Value.agg #[Value.slice a l c,
 Value.int IntKind.i64 i], Value.int IntKind.i64 i_7, Value.int IntKind.i64 i_8]) ∧ ∃ w1, St Tryz.prog 88 w' (Addr.mk b_4 0 none) (Value.agg #[Value.slice a l c, Value.int IntKind.i64 i]) w1 ∧
 ∃ a l c a_5 l_3 c_3 i, Ld Tryz.prog 30 w1 (Addr.mk b 0 none) (Value.agg #[Value.slice a l c, Value.slice a_5 l_3 c_3, Value.int IntKind.i64 i]) ∧ ∃ i_9, Ld Tryz.prog 3 w1 (Addr.mk
 b_1 1 none) (Value.int IntKind.i64 i_9) ∧ ∃ (a_6 : Option Addr), ∃ l_4 c_4, ∃ (i_10 : Int), Ld Tryz.prog 88 w1 (Addr.mk b_4 0 none) (Value.agg #[Value.slice a_6 l_4 c_4, Value.int IntKind.i64
 i_10]) ∧ CallV Tryz.prog 45 [Value.agg #[Value.slice a l c, Value.slice a_5 l_3 c_3, Value.int IntKind.i64 i], Value.int IntKind.i64 i_9, Value.agg #[Value.slice a_6 l_4 c_4, Value.int
 IntKind.i64 i_10]] w1 fun (e : Ending) (w' : World) ↦ ∃ (a : Option Addr), ∃ (l : Nat), ∃ (c : Nat), ∃ (a_7 : Option Addr), ∃ (l_5 : Nat), ∃ (c_5 : Nat), ∃ (i : Int), e = Ending.returned (Value.agg
 #[Value.slice a l c, Value.slice a_7 l_5 c_5, Value.int IntKind.i64 i]) ∧ ∃ (w1 : World), St Tryz.prog 30 w' (Addr.mk b_2 0 none) (Value.agg #[Value.slice a l c, Value.slice a_7 l_5 c_5,
 Value.int IntKind.i64 i]) w1 ∧ ∃ (a : Option Addr), ∃ (l : Nat), ∃ (c : Nat), ∃ (a_8 : Option Addr), ∃ (l_6 : Nat), ∃ (c_6 : Nat), ∃ (i : Int), Ld Tryz.prog 30 w1 (Addr.mk b_2 0 none)
 (Value.agg #[Value.slice a l c, Value.slice a_8 l_6 c_6, Value.int IntKind.i64 i]) ∧ R (Ending.returned (Value.tuple #[Value.agg #[Value.slice a l c, Value.slice a_8 l_6 c_6, Value.int IntKind.i64 i],
 Value.int IntKind.i64 i_8])) w1)) (br (decide (i = (4 : Int))) (∃ a l c, Ld Tryz.prog 23 (World.drew w') (Addr.mk b 1 none) (Value.slice a l c) ∧ ∃ i, Ld Tryz.prog 3 (World.drew w')
 (Addr.mk b_1 1 none) (Value.int IntKind.i64 i) ∧ onP a fun a ↦ ((0 : Int) ≤ i ∧ i < (↑l : Int)) ∧ ∃ i_2, Ld Tryz.prog 3 (World.drew w') (Addr.add a (Int.toNat i * 1)) (Value.int IntKind.i64
 i_2) ∧ br (decide ((0 : Int) < i_2)) (∃ a l c a_2 l_2 c_2 i, Ld Tryz.prog 30 (World.drew w') (Addr.mk b 0 none) (Value.agg #[Value.slice a l c, Value.slice a_2 l_2 c_2, Value.int IntKind.i64
 i]) ∧ ∃ w1, St Tryz.prog 30 (World.drew w') (Addr.mk b_2 0 none) (Value.agg #[Value.slice a l c, Value.slice a_2 l_2 c_2, Value.int IntKind.i64 i]) w1 ∧ ∃ a l c a_3 l_3 c_3 i, Ld
 Tryz.prog 30 w1 (Addr.mk b_2 0 none) (Value.agg #[Value.slice a l c, Value.slice a_3 l_3 c_3, Value.int IntKind.i64 i]) ∧ R (Ending.returned (Value.tuple #[Value.agg #[Value.slice a l c,
 Value.slice a_3 l_3 c_3, Value.int IntKind.i64 i], Value.int IntKind.i64 120])) w1) (∃ a l c a_2 l_2 c_2 i, Ld Tryz.prog 30 (World.drew w') (Addr.mk b 0 none) (Value.agg #[Value.slice a l c,
 Value.slice a_2 l_2 c_2, Value.int IntKind.i64 i]) ∧ ∃ i_3, Ld Tryz.prog 3 (World.drew w') (Addr.mk b 2 none) (Value.int IntKind.i64 i_3) ∧ CallV Tryz.prog 41 [Value.agg
 #[Value.slice a l c, Value.slice a_2 l_2 c_2, Value.int IntKind.i64 i]] (World.drew w') fun e w' ↦ ∃ i, e = Ending.returned (Value.int IntKind.i64 i) ∧ Ld Tryz.prog 3 w' (Addr.mk b 2 none)
 (Value.int IntKind.i64 i_3) ∧ br (decide (i_3 ≤ i)) (∃ a l c a_3 l_3 c_3 i, Ld Tryz.prog 30 w' (Addr.mk b 0 none) (Value.agg #[Value.slice a l c, Value.slice a_3 l_3 c_3, Value.int
 IntKind.i64 i]) ∧ ∃ w1, St Tryz.prog 30 w' (Addr.mk b_2 0 none) (Value.agg #[Value.slice a l c, Value.slice a_3 l_3 c_3, Value.int IntKind.i64 i]) w1 ∧ ∃ a l c a_4 l_4 c_4 i, Ld
 Tryz.prog 30 w1 (Addr.mk b_2 0 none) (Value.agg #[Value.slice a l c, Value.slice a_4 l_4 c_4, Value.int IntKind.i64 i]) ∧ R (Ending.returned (Value.tuple #[Value.agg #[Value.slice a l c,
 Value.slice a_4 l_4 c_4, Value.int IntKind.i64 i], Value.int IntKind.i64 120])) w1) (∃ i, Ld Tryz.prog 3 w' (Addr.mk b_1 8 none) (Value.int IntKind.i64 i) ∧ ∃ s, Ld Tryz.prog 9 w'
 (Addr.mk b_1 7 none) (Value.string s) ∧ CallV Tryz.prog 46 [Value.agg #[Value.slice none 0 0, Value.int IntKind.i64 i], Value.int IntKind.i64 0, Value.string s] w' fun e w' ↦ ∃ a l c i i_4, e
 = Ending.returned (Value.tuple #[Value.agg #[Value.slice a l c, Value.int IntKind.i64 i], Value.int IntKind.i64 i_4]) ∧ ∀ b_4 w1, New w' (Obj.cells #[Value.slice none 0 0, Value.int IntKind.i64 0] 88)
 b_4 w1 → ∃ w1_2, St Tryz.prog 88 w1 (Addr.mk b_4 0 none) (Value.agg #[Value.slice a l c, Value.int IntKind.i64 i]) w1_2 ∧ ∃ a l c a_4 l_3 c_3 i, Ld Tryz.prog 30 w1_2 (Addr.mk b 0
 none) (Value.agg #[Value.slice a l c, Value.slice a_4 l_3 c_3, Value.int IntKind.i64 i]) ∧ ∃ i_5, Ld Tryz.prog 3 w1_2 (Addr.mk b_1 1 none) (Value.int IntKind.i64 i_5) ∧ ∃ a_5 l_4 c_4 i_6, Ld
 Tryz.prog 88 w1_2 (Addr.mk b_4 0 none) (Value.agg #[Value.slice a_5 l_4 c_4, Value.int IntKind.i64 i_6]) ∧ CallV Tryz.prog 45 [Value.agg #[Value.slice a l c, Value.slice a_4 l_3 c_3,
 Value.int IntKind.i64 i], Value.int IntKind.i64 i_5, Value.agg #[Value.slice a_5 l_4 c_4, Value.int IntKind.i64 i_6]] w1_2 fun (e : Ending) (w' : World) ↦ ∃ (a : Option Addr), ∃ l c, ∃ (a_6 : Option
 Addr), ∃ (l_5 : Nat), ∃ (c_5 : Nat), ∃ (i : Int), e = Ending.returned (Value.agg #[Value.slice a l c, Value.slice a_6 l_5 c_5, Value.int IntKind.i64 i]) ∧ ∃ (w1 : World), St Tryz.prog 30 w'
 (Addr.mk b_2 0 none) (Value.agg #[Value.slice a l c, Value.slice a_6 l_5 c_5, Value.int IntKind.i64 i]) w1 ∧ ∃ (a : Option Addr), ∃ (l : Nat), ∃ (c : Nat), ∃ (a_7 : Option Addr), ∃ (l_6 : Nat), ∃ (c_6
 : Nat), ∃ (i : Int), Ld Tryz.prog 30 w1 (Addr.mk b_2 0 none) (Value.agg #[Value.slice a l c, Value.slice a_7 l_6 c_6, Value.int IntKind.i64 i]) ∧ R (Ending.returned (Value.tuple #[Value.agg
 #[Value.slice a l c, Value.slice a_7 l_6 c_6, Value.int IntKind.i64 i], Value.int IntKind.i64 0])) w1))) (∃ a l c a_2 l_2 c_2 i, Ld Tryz.prog 30 w' (Addr.mk b 0 none) (Value.agg #[Value.slice
 a l c, Value.slice a_2 l_2 c_2, Value.int IntKind.i64 i]) ∧ ∃ w1, St Tryz.prog 30 w' (Addr.mk b_2 0 none) (Value.agg #[Value.slice a l c, Value.slice a_2 l_2 c_2, Value.int IntKind.i64 i]) w1
 ∧ ∃ a l c a_3 l_3 c_3 i, Ld Tryz.prog 30 w1 (Addr.mk b_2 0 none) (Value.agg #[Value.slice a l c, Value.slice a_3 l_3 c_3, Value.int IntKind.i64 i]) ∧ R (Ending.returned (Value.tuple
 #[Value.agg #[Value.slice a l c, Value.slice a_3 l_3 c_3, Value.int IntKind.i64 i], Value.int IntKind.i64 0])) w1))))))))
theorem qdo.eq (p_Pagesa : Option Addr) (p_Pagesn : Nat) (p_Pagesc : Nat) (p_Pinsa : Option Addr) (p_Pinsn : Nat) (p_Pinsc : Nat) (p_Many : Int) (o_Kind : Int) (o_N : Int) (o_Changed : Bool) (o_O_Kind : Int) (o_O_Slot : Int) (o_O_N : Int) (o_O_S : ByteArray) (o_S : ByteArray) (o_Stamp : Int) (w : World) (R : Ending → World → Prop) : bodyV Tryz.prog qdo.an Tryz.f20 [.agg #[.slice p_Pagesa p_Pagesn p_Pagesc, .slice p_Pinsa p_Pinsn p_Pinsc, .int .i64 p_Many], .agg #[.int .i64 o_Kind, .int .i64 o_N, .bool o_Changed, .int .i64 o_O_Kind, .int .i64 o_O_Slot, .int .i64 o_O_N, .string o_O_S, .string o_S, .int .i64 o_Stamp]] w R = qdo.vc p_Pagesa p_Pagesn p_Pagesc p_Pinsa p_Pinsn p_Pinsc p_Many o_Kind o_N o_Changed o_O_Kind o_O_Slot o_O_N o_O_S o_S o_Stamp w R := by kernel_rfl
theorem qdo.ok (p_Pagesa : Option Addr) (p_Pagesn : Nat) (p_Pagesc : Nat) (p_Pinsa : Option Addr) (p_Pinsn : Nat) (p_Pinsc : Nat) (p_Many : Int) (o_Kind : Int) (o_N : Int) (o_Changed : Bool) (o_O_Kind : Int) (o_O_Slot : Int) (o_O_N : Int) (o_O_S : ByteArray) (o_S : ByteArray) (o_Stamp : Int) (w : World) (R : Ending → World → Prop) (h : qdo.vc p_Pagesa p_Pagesn p_Pagesc p_Pinsa p_Pinsn p_Pinsc p_Many o_Kind o_N o_Changed o_O_Kind o_O_Slot o_O_N o_O_S o_S o_Stamp w R) : Calls Tryz.prog 20 #[.agg #[.slice p_Pagesa p_Pagesn p_Pagesc, .slice p_Pinsa p_Pinsn p_Pinsc, .int .i64 p_Many], .agg #[.int .i64 o_Kind, .int .i64 o_N, .bool o_Changed, .int .i64 o_O_Kind, .int .i64 o_O_Slot, .int .i64 o_O_N, .string o_O_S, .string o_S, .int .i64 o_Stamp]] w R :=
  calls_of_bodyV noNum (an := qdo.an) (args := [.agg #[.slice p_Pagesa p_Pagesn p_Pagesc, .slice p_Pinsa p_Pinsn p_Pinsc, .int .i64 p_Many], .agg #[.int .i64 o_Kind, .int .i64 o_N, .bool o_Changed, .int .i64 o_O_Kind, .int .i64 o_O_Slot, .int .i64 o_O_N, .string o_O_S, .string o_S, .int .i64 o_Stamp]]) Tryz.func20 (by kernel_rfl) ((qdo.eq p_Pagesa p_Pagesn p_Pagesc p_Pinsa p_Pinsn p_Pinsc p_Many o_Kind o_N o_Changed o_O_Kind o_O_Slot o_O_N o_O_S o_S o_Stamp w R).mpr h)

/-- incunable/incunablelaw12.begun -/
def begun.an : An := { wraps := [], loops := [], joins := [], ranges := [] }
def begun.vc (many : Int) (w : World) (R : Ending → World → Prop) : Prop := CallV Tryz.prog 19 [Value.int IntKind.i64 2000] w fun e w' ↦ ∃ p, e = Ending.returned (Value.pointer p) ∧ ∀ b w1, New w' (Obj.cells #[Value.pointer p, Value.pointer none, Value.slice none 0 0,
 Value.bool false, Value.pointer none, Value.pointer none, Value.pointer none, Value.pointer none, Value.pointer none, Value.pointer none, Value.pointer none, Value.pointer none, Value.pointer none,
 Value.pointer none, Value.pointer none, Value.pointer none] 40) b w1 → ∃ p, Ld Tryz.prog 35 w1 (Addr.mk b 0 none) (Value.pointer p) ∧ ∃ b_1, Eqv Tryz.prog BinOp.eql 35 (Operand.tmp
 10) (Operand.const (Value.pointer none)) w1 (Value.pointer p) (Value.pointer none) b_1 ∧ br b_1 (R (Ending.returned (Value.pointer none)) w1) (CallV Tryz.prog 13 [Value.pointer (some (Addr.mk
 b 0 none)), Value.int IntKind.i64 many] w1 fun e w' ↦ ∃ p, e = Ending.returned (Value.pointer p) ∧ R (Ending.returned (Value.pointer p)) w')
theorem begun.eq (many : Int) (w : World) (R : Ending → World → Prop) : bodyV Tryz.prog begun.an Tryz.f6 [.int .i64 many] w R = begun.vc many w R := by kernel_rfl
theorem begun.ok (many : Int) (w : World) (R : Ending → World → Prop) (h : begun.vc many w R) : Calls Tryz.prog 6 #[.int .i64 many] w R :=
  calls_of_bodyV noNum (an := begun.an) (args := [.int .i64 many]) Tryz.func6 (by kernel_rfl) ((begun.eq many w R).mpr h)

/-- (*incunable/incunablelaw12.desk).open -/
def dopen.an : An := { wraps := [], loops := [], joins := [], ranges := [] }
def dopen.vc (k : Option Addr) (many : Int) (w : World) (R : Ending → World → Prop) : Prop := ∀ b w1, New w (Obj.cells #[Value.pointer k] 26) b w1 → ∃ p, Ld Tryz.prog 26 w1 (Addr.mk b 0 none) (Value.pointer p) ∧ onP p fun a ↦ ∃ p, Ld Tryz.prog 35 w1 a (Value.pointer p) ∧ CallV
 Tryz.prog 33 [Value.pointer p, Value.string (ByteArray.mk #[(100 : UInt8), (97 : UInt8), (116 : UInt8), (97 : UInt8)]), Value.int IntKind.i64 many, Value.func (Fn.func 34) #[] #[Value.pointer
 (some (Addr.mk b 0 none))]] w1 fun e w' ↦ ∃ p i, e = Ending.returned (Value.tuple #[Value.pointer p, Value.int IntKind.i64 i]) ∧ br (!decide (i = (0 : Int))) (R (Ending.returned (Value.pointer none))
 w') (∃ b_1, Eqv Tryz.prog BinOp.eql 36 (Operand.tmp 20) (Operand.const (Value.pointer none)) w' (Value.pointer p) (Value.pointer none) b_1 ∧ br b_1 (R (Ending.returned (Value.pointer none))
 w') (∃ p_1, Ld Tryz.prog 26 (World.drew w') (Addr.mk b 0 none) (Value.pointer p_1) ∧ ∃ p_2, Ld Tryz.prog 26 (World.drew w') (Addr.mk b 0 none) (Value.pointer p_2) ∧ onP p_1 fun a ↦ ∃
 w1, St Tryz.prog 36 (World.drew w') (Addr.add a 1) (Value.pointer p) w1 ∧ Ld Tryz.prog 26 w1 (Addr.mk b 0 none) (Value.pointer p_2) ∧ onP p_2 fun a ↦ ∃ w1_1, St Tryz.prog 38
 w1 (Addr.add a 4) (Value.agg #[Value.pointer none, Value.pointer none, Value.pointer none, Value.pointer none, Value.pointer none, Value.pointer none, Value.pointer none, Value.pointer none,
 Value.pointer none, Value.pointer none, Value.pointer none, Value.pointer none]) w1_1 ∧ ∃ p, Ld Tryz.prog 26 w1_1 (Addr.mk b 0 none) (Value.pointer p) ∧ R (Ending.returned (Value.pointer p))
 w1_1))
theorem dopen.eq (k : Option Addr) (many : Int) (w : World) (R : Ending → World → Prop) : bodyV Tryz.prog dopen.an Tryz.f13 [.pointer k, .int .i64 many] w R = dopen.vc k many w R := by kernel_rfl
theorem dopen.ok (k : Option Addr) (many : Int) (w : World) (R : Ending → World → Prop) (h : dopen.vc k many w R) : Calls Tryz.prog 13 #[.pointer k, .int .i64 many] w R :=
  calls_of_bodyV noNum (an := dopen.an) (args := [.pointer k, .int .i64 many]) Tryz.func13 (by kernel_rfl) ((dopen.eq k many w R).mpr h)

/-- (*incunable/incunablelaw12.desk).open$1 -/
def dopenC.an : An := { wraps := [], loops := [], joins := [], ranges := [] }
def dopenC.vc (stamp : Int) (free0 : Option Addr) (w : World) (R : Ending → World → Prop) : Prop := ∃ p, (onP free0 fun a ↦ Ld Tryz.prog 26 (World.drew w) a (Value.pointer p)) ∧ ∃ p_1, (onP free0 fun a ↦ Ld Tryz.prog 26 (World.drew w) a (Value.pointer p_1)) ∧ onP p_1 fun a ↦ ∃ a_1 l
 c, Ld Tryz.prog 23 (World.drew w) (Addr.add a 2) (Value.slice a_1 l c) ∧ ∀ b w1, New (World.drew w) (Obj.cells #[Value.int IntKind.i64 stamp] 3) b w1 → Ld Tryz.prog 23 w1 (Addr.add a
 2) (Value.slice a_1 l c) ∧ (onP free0 fun a ↦ Ld Tryz.prog 26 w1 a (Value.pointer p_1)) ∧ (onP free0 fun a ↦ Ld Tryz.prog 26 w1 a (Value.pointer p)) ∧ ∃ a n m w1_1, App
 Tryz.prog #[23, 23] 23 w1 (Value.slice a_1 l c) (Value.slice (some (Addr.mk b 0 none)) 1 1) (Value.slice a n m) w1_1 ∧ (onP free0 fun a ↦ Ld Tryz.prog 26 w1_1 a (Value.pointer p)) ∧
 onP p fun a_3 ↦ ∃ w1, St Tryz.prog 23 w1_1 (Addr.add a_3 2) (Value.slice a n m) w1 ∧ ∃ p, (onP free0 fun a ↦ Ld Tryz.prog 26 w1 a (Value.pointer p)) ∧ onP p fun a ↦ ∃ b, Ld
 Tryz.prog 4 w1 (Addr.add a 3) (Value.bool b) ∧ br b (R (Ending.returned (Value.int IntKind.i64 190)) w1) (R (Ending.returned (Value.int IntKind.i64 0)) w1)
theorem dopenC.eq (stamp : Int) (free0 : Option Addr) (w : World) (R : Ending → World → Prop) : bodyV Tryz.prog dopenC.an Tryz.f34 [.int .i64 stamp, (.pointer free0)] w R = dopenC.vc stamp free0 w R := by kernel_rfl
theorem dopenC.ok (stamp : Int) (free0 : Option Addr) (w : World) (R : Ending → World → Prop) (h : dopenC.vc stamp free0 w R) : Calls Tryz.prog 34 #[.int .i64 stamp, (.pointer free0)] w R :=
  calls_of_bodyV noNum (an := dopenC.an) (args := [.int .i64 stamp, (.pointer free0)]) Tryz.func34 (by kernel_rfl) ((dopenC.eq stamp free0 w R).mpr h)

/-- incunable/incunablelaw12.alive -/
def alive.an : An := { wraps := [], loops := [], joins := [], ranges := [] }
def alive.vc  (w : World) (R : Ending → World → Prop) : Prop := CallV Tryz.prog 6 [Value.int IntKind.i64 4] w fun e w' ↦ ∃ p, e = Ending.returned (Value.pointer p) ∧ ∃ b, Eqv Tryz.prog BinOp.eql 26 (Operand.tmp 8) (Operand.const (Value.pointer
 none)) w' (Value.pointer p) (Value.pointer none) b ∧ br b (R (Ending.returned (Value.bool false)) w') (onP p fun a ↦ ∃ p_1, Ld Tryz.prog 36 w' (Addr.add a 1) (Value.pointer p_1) ∧ CallV
 Tryz.prog 15 [Value.pointer p_1, Value.int IntKind.i64 0] w' fun e w' ↦ ∃ p_2 i, e = Ending.returned (Value.tuple #[Value.pointer p_2, Value.int IntKind.i64 i]) ∧ br (!decide (i = (0 : Int)))
 (R (Ending.returned (Value.bool false)) w') (∃ b, Eqv Tryz.prog BinOp.eql 37 (Operand.tmp 21) (Operand.const (Value.pointer none)) w' (Value.pointer p_2) (Value.pointer none) b ∧ br b (R
 (Ending.returned (Value.bool false)) w') (CallV Tryz.prog 16 [Value.pointer p_2, Value.string (ByteArray.mk #[(97 : UInt8)])] w' fun e w' ↦ ∃ i i_1, e = Ending.returned (Value.tuple
 #[Value.int IntKind.i64 i, Value.int IntKind.i64 i_1]) ∧ onP p fun a ↦ ∃ p_3, Ld Tryz.prog 36 w' (Addr.add a 1) (Value.pointer p_3) ∧ CallV Tryz.prog 17 [Value.pointer p_3, Value.int
 IntKind.i64 0, Value.bool true] w' fun e w' ↦ ∃ b, e = Ending.returned (Value.bool b) ∧ onP p fun a ↦ ∃ p_4, Ld Tryz.prog 36 w' (Addr.add a 1) (Value.pointer p_4) ∧ CallV Tryz.prog
 11 [Value.pointer p_4] w' fun e w' ↦ ∃ a l c, e = Ending.returned (Value.slice a l c) ∧ onP p fun a ↦ ∃ p_5, Ld Tryz.prog 36 w' (Addr.add a 1) (Value.pointer p_5) ∧ CallV Tryz.prog 9
 [Value.pointer p_5] w' fun e w' ↦ ∃ i, e = Ending.returned (Value.int IntKind.i64 i) ∧ br b (br (decide ((↑l : Int) = (1 : Int))) (br (decide (i = (0 : Int))) (onP p fun a ↦ ∃ p_6, Ld
 Tryz.prog 36 w' (Addr.add a 1) (Value.pointer p_6) ∧ CallV Tryz.prog 11 [Value.pointer p_6] w' fun e w' ↦ ∃ a l c, e = Ending.returned (Value.slice a l c) ∧ br (decide ((↑l : Int) =
 (0 : Int))) (onP p fun a ↦ ∃ p_7, Ld Tryz.prog 35 w' a (Value.pointer p_7) ∧ CallV Tryz.prog 18 [Value.pointer p_7, Value.string (ByteArray.mk #[(100 : UInt8), (97 : UInt8), (116 :
 UInt8), (97 : UInt8)])] w' fun e w' ↦ ∃ i, e = Ending.returned (Value.int IntKind.i64 i) ∧ br (decide (i = (8 : Int))) (onP p fun a ↦ ∃ a_1 l c, Ld Tryz.prog 23 w' (Addr.add a 2) (Value.slice
 a_1 l c) ∧ R (Ending.returned (Value.bool (decide ((↑l : Int) = (1 : Int))))) w') (R (Ending.returned (Value.bool false)) w')) (R (Ending.returned (Value.bool false)) w')) (R (Ending.returned
 (Value.bool false)) w')) (R (Ending.returned (Value.bool false)) w')) (R (Ending.returned (Value.bool false)) w'))))
theorem alive.eq  (w : World) (R : Ending → World → Prop) : bodyV Tryz.prog alive.an Tryz.f5 [] w R = alive.vc  w R := by kernel_rfl
theorem alive.ok  (w : World) (R : Ending → World → Prop) (h : alive.vc  w R) : Calls Tryz.prog 5 #[] w R :=
  calls_of_bodyV noNum (an := alive.an) (args := []) Tryz.func5 (by kernel_rfl) ((alive.eq  w R).mpr h)

/-- incunable/incunablelaw12.change -/
def change.an : An := { wraps := [], loops := [], joins := [], ranges := [] }
def change.vc (x : Option Addr) (o_Kind : Int) (o_Slot : Int) (o_N : Int) (o_S : ByteArray) (w : World) (R : Ending → World → Prop) : Prop := ∀ b w1, New w (Obj.cells #[Value.int IntKind.i64 o_Kind, Value.int IntKind.i64 o_Slot, Value.int IntKind.i64 o_N, Value.string o_S] 47) b w1 → ∃ i, Ld Tryz.prog 3 w1 (Addr.mk b 0 none)
 (Value.int IntKind.i64 i) ∧ br (decide (i = (0 : Int))) (∃ s, Ld Tryz.prog 9 w1 (Addr.mk b 3 none) (Value.string s) ∧ CallV Tryz.prog 16 [Value.pointer x, Value.string s] w1 fun e w'
 ↦ ∃ i i_1, e = Ending.returned (Value.tuple #[Value.int IntKind.i64 i, Value.int IntKind.i64 i_1]) ∧ R (Ending.returned (Value.int IntKind.i64 i_1)) w') (br (decide (i = (1 : Int))) (∃ i, Ld
 Tryz.prog 3 w1 (Addr.mk b 1 none) (Value.int IntKind.i64 i) ∧ ∃ s, Ld Tryz.prog 9 w1 (Addr.mk b 3 none) (Value.string s) ∧ CallV Tryz.prog 39 [Value.pointer x, Value.int
 IntKind.i64 i, Value.string s] w1 fun e w' ↦ ∃ i, e = Ending.returned (Value.int IntKind.i64 i) ∧ R (Ending.returned (Value.int IntKind.i64 i)) w') (br (decide (i = (2 : Int))) (∃ i, Ld
 Tryz.prog 3 w1 (Addr.mk b 1 none) (Value.int IntKind.i64 i) ∧ CallV Tryz.prog 78 [Value.pointer x, Value.int IntKind.i64 i] w1 fun e w' ↦ ∃ i, e = Ending.returned (Value.int
 IntKind.i64 i) ∧ R (Ending.returned (Value.int IntKind.i64 i)) w') (br (decide (i = (3 : Int))) (∃ i, Ld Tryz.prog 3 w1 (Addr.mk b 2 none) (Value.int IntKind.i64 i) ∧ CallV Tryz.prog
 49 [Value.pointer x, Value.int IntKind.i64 i] w1 fun e w' ↦ ∃ b, e = Ending.returned (Value.bool b) ∧ br (!b) (R (Ending.returned (Value.int IntKind.i64 1)) w') (R (Ending.returned (Value.int
 IntKind.i64 0)) w')) (R (Ending.returned (Value.int IntKind.i64 0)) w1))))
theorem change.eq (x : Option Addr) (o_Kind : Int) (o_Slot : Int) (o_N : Int) (o_S : ByteArray) (w : World) (R : Ending → World → Prop) : bodyV Tryz.prog change.an Tryz.f47 [.pointer x, .agg #[.int .i64 o_Kind, .int .i64 o_Slot, .int .i64 o_N, .string o_S]] w R = change.vc x o_Kind o_Slot o_N o_S w R := by kernel_rfl
theorem change.ok (x : Option Addr) (o_Kind : Int) (o_Slot : Int) (o_N : Int) (o_S : ByteArray) (w : World) (R : Ending → World → Prop) (h : change.vc x o_Kind o_Slot o_N o_S w R) : Calls Tryz.prog 47 #[.pointer x, .agg #[.int .i64 o_Kind, .int .i64 o_Slot, .int .i64 o_N, .string o_S]] w R :=
  calls_of_bodyV noNum (an := change.an) (args := [.pointer x, .agg #[.int .i64 o_Kind, .int .i64 o_Slot, .int .i64 o_N, .string o_S]]) Tryz.func47 (by kernel_rfl) ((change.eq x o_Kind o_Slot o_N o_S w R).mpr h)

/-- (*incunable/incunablelaw12.desk).does -/
def does.an : An := { wraps := [], loops := [], joins := [(2, [(5, .inr 0)])], ranges := [] }
def does.vc (k : Option Addr) (o_Kind : Int) (o_N : Int) (o_Changed : Bool) (o_O_Kind : Int) (o_O_Slot : Int) (o_O_N : Int) (o_O_S : ByteArray) (o_S : ByteArray) (o_Stamp : Int) (w : World) (R : Ending → World → Prop) : Prop := ∀ b w1, New w (Obj.cells #[Value.int IntKind.i64 o_Kind, Value.int IntKind.i64 o_N, Value.bool o_Changed, Value.int IntKind.i64 o_O_Kind, Value.int IntKind.i64 o_O_Slot, Value.int IntKind.i64 o_O_N,
 Value.string o_O_S, Value.string o_S, Value.int IntKind.i64 o_Stamp] 49) b w1 → JoinP (fun s w' ↦ ∃ i, Ld Tryz.prog 3 w' (Addr.mk b 0 none) (Value.int IntKind.i64 i) ∧ br (decide (i = (0 :
 Int))) (onP k fun a ↦ ∃ p, Ld Tryz.prog 36 (World.drew w') (Addr.add a 1) (Value.pointer p) ∧ ∃ i, Ld Tryz.prog 3 (World.drew w') (Addr.mk b 1 none) (Value.int IntKind.i64 i) ∧ CallV
 Tryz.prog 15 [Value.pointer p, Value.int IntKind.i64 i] (World.drew w') fun e w' ↦ ∃ p i, e = Ending.returned (Value.tuple #[Value.pointer p, Value.int IntKind.i64 i]) ∧ br (decide (i = (0 :
 Int))) (br s (∃ i_1, Ld Tryz.prog 3 (World.drew w') (Addr.mk b 1 none) (Value.int IntKind.i64 i_1) ∧ onP k fun a ↦ ((0 : Int) ≤ i_1 ∧ i_1 < (↑(12 : Nat) : Int)) ∧ ∃ w1, St Tryz.prog
 37 (World.drew w') (Addr.add (Addr.add a 4) (Int.toNat i_1 * 1)) (Value.pointer p) w1 ∧ R (Ending.returned (Value.int IntKind.i64 i)) w1) (R (Ending.returned (Value.int IntKind.i64 i)) w')) (R
 (Ending.returned (Value.int IntKind.i64 i)) w')) (br (decide (i = (1 : Int))) (onP k fun a ↦ ∃ p, Ld Tryz.prog 36 (World.drew w') (Addr.add a 1) (Value.pointer p) ∧ ∃ i, Ld Tryz.prog
 3 (World.drew w') (Addr.mk b 1 none) (Value.int IntKind.i64 i) ∧ CallV Tryz.prog 17 [Value.pointer p, Value.int IntKind.i64 i, Value.bool true] (World.drew w') fun e w' ↦ ∃ b, e =
 Ending.returned (Value.bool b) ∧ br (!b) (R (Ending.returned (Value.int IntKind.i64 1)) w') (R (Ending.returned (Value.int IntKind.i64 0)) w')) (br (decide (i = (2 : Int))) (br (!s) (R
 (Ending.returned (Value.int IntKind.i64 1)) (World.drew w')) (∃ i, Ld Tryz.prog 3 (World.drew w') (Addr.mk b 1 none) (Value.int IntKind.i64 i) ∧ onP k fun a ↦ ((0 : Int) ≤ i ∧ i < (↑(12 :
 Nat) : Int)) ∧ ∃ p, Ld Tryz.prog 37 (World.drew w') (Addr.add (Addr.add a 4) (Int.toNat i * 1)) (Value.pointer p) ∧ ∃ b_1, Eqv Tryz.prog BinOp.eql 37 (Operand.tmp 65) (Operand.const
 (Value.pointer none)) (World.drew w') (Value.pointer p) (Value.pointer none) b_1 ∧ br b_1 (R (Ending.returned (Value.int IntKind.i64 1)) (World.drew w')) (∃ i, Ld Tryz.prog 3 (World.drew
 (World.drew w')) (Addr.mk b 1 none) (Value.int IntKind.i64 i) ∧ onP k fun a ↦ ((0 : Int) ≤ i ∧ i < (↑(12 : Nat) : Int)) ∧ ∃ p, Ld Tryz.prog 37 (World.drew (World.drew w')) (Addr.add (Addr.add
 a 4) (Int.toNat i * 1)) (Value.pointer p) ∧ ∃ i i_1 i_2 s, Ld Tryz.prog 47 (World.drew (World.drew w')) (Addr.mk b 3 none) (Value.agg #[Value.int IntKind.i64 i, Value.int IntKind.i64 i_1,
 Value.int IntKind.i64 i_2, Value.string s]) ∧ CallV Tryz.prog 47 [Value.pointer p, Value.agg #[Value.int IntKind.i64 i, Value.int IntKind.i64 i_1, Value.int IntKind.i64 i_2, Value.string s]]
 (World.drew (World.drew w')) fun e w' ↦ ∃ i, e = Ending.returned (Value.int IntKind.i64 i) ∧ R (Ending.returned (Value.int IntKind.i64 i)) w'))) (br (decide (i = (3 : Int))) (onP k fun a ↦ ∃ p, Ld
 Tryz.prog 36 w' (Addr.add a 1) (Value.pointer p) ∧ CallV Tryz.prog 9 [Value.pointer p] w' fun e w' ↦ ∃ i, e = Ending.returned (Value.int IntKind.i64 i) ∧ R (Ending.returned
 (Value.int IntKind.i64 i)) w') (br (decide (i = (4 : Int))) (CallV Tryz.prog 48 [] w' fun e w' ↦ ∃ p, e = Ending.returned (Value.pointer p) ∧ ∃ i, Ld Tryz.prog 3 w' (Addr.mk b 8
 none) (Value.int IntKind.i64 i) ∧ CallV Tryz.prog 49 [Value.pointer p, Value.int IntKind.i64 i] w' fun e w' ↦ ∃ b_1, e = Ending.returned (Value.bool b_1) ∧ ∃ s, Ld Tryz.prog 9 w'
 (Addr.mk b 7 none) (Value.string s) ∧ CallV Tryz.prog 39 [Value.pointer p, Value.int IntKind.i64 0, Value.string s] w' fun e w' ↦ ∃ i, e = Ending.returned (Value.int IntKind.i64 i) ∧ onP k
 fun a ↦ ∃ p_1, Ld Tryz.prog 36 (World.drew w') (Addr.add a 1) (Value.pointer p_1) ∧ ∃ i, Ld Tryz.prog 3 (World.drew w') (Addr.mk b 1 none) (Value.int IntKind.i64 i) ∧ CallV
 Tryz.prog 50 [Value.pointer p_1, Value.int IntKind.i64 i, Value.pointer p] (World.drew w') fun e w' ↦ ∃ i, e = Ending.returned (Value.int IntKind.i64 i) ∧ R (Ending.returned (Value.int
 IntKind.i64 i)) w') (R (Ending.returned (Value.int IntKind.i64 0)) w')))))) fun (J : Bool → World → Prop) ↦ ∃ i, Ld Tryz.prog 3 w1 (Addr.mk b 1 none) (Value.int IntKind.i64 i) ∧ br (decide
 ((0 : Int) ≤ i)) (∃ i, Ld Tryz.prog 3 w1 (Addr.mk b 1 none) (Value.int IntKind.i64 i) ∧ J (decide (i < (12 : Int))) w1) (J false w1)
theorem does.eq (k : Option Addr) (o_Kind : Int) (o_N : Int) (o_Changed : Bool) (o_O_Kind : Int) (o_O_Slot : Int) (o_O_N : Int) (o_O_S : ByteArray) (o_S : ByteArray) (o_Stamp : Int) (w : World) (R : Ending → World → Prop) : bodyV Tryz.prog does.an Tryz.f21 [.pointer k, .agg #[.int .i64 o_Kind, .int .i64 o_N, .bool o_Changed, .int .i64 o_O_Kind, .int .i64 o_O_Slot, .int .i64 o_O_N, .string o_O_S, .string o_S, .int .i64 o_Stamp]] w R = does.vc k o_Kind o_N o_Changed o_O_Kind o_O_Slot o_O_N o_O_S o_S o_Stamp w R := by kernel_rfl
theorem does.ok (k : Option Addr) (o_Kind : Int) (o_N : Int) (o_Changed : Bool) (o_O_Kind : Int) (o_O_Slot : Int) (o_O_N : Int) (o_O_S : ByteArray) (o_S : ByteArray) (o_Stamp : Int) (w : World) (R : Ending → World → Prop) (h : does.vc k o_Kind o_N o_Changed o_O_Kind o_O_Slot o_O_N o_O_S o_S o_Stamp w R) : Calls Tryz.prog 21 #[.pointer k, .agg #[.int .i64 o_Kind, .int .i64 o_N, .bool o_Changed, .int .i64 o_O_Kind, .int .i64 o_O_Slot, .int .i64 o_O_N, .string o_O_S, .string o_S, .int .i64 o_Stamp]] w R :=
  calls_of_bodyV noNum (an := does.an) (args := [.pointer k, .agg #[.int .i64 o_Kind, .int .i64 o_N, .bool o_Changed, .int .i64 o_O_Kind, .int .i64 o_O_Slot, .int .i64 o_O_N, .string o_O_S, .string o_S, .int .i64 o_Stamp]]) Tryz.func21 (by kernel_rfl) ((does.eq k o_Kind o_N o_Changed o_O_Kind o_O_Slot o_O_N o_O_S o_S o_Stamp w R).mpr h)

/-- incunable/incunablelaw12.few -/
def few.an : An := { wraps := [], loops := [(2, [(7, .inl .i64)])], joins := [], ranges := [] }
def few.vc (scripta : Option Addr) (scriptn : Nat) (scriptc : Nat) (w : World) (R : Ending → World → Prop) : Prop := LoopP (fun (s : Int) (w' : World) (next : Int → World → Prop) ↦ br (decide (s < (↑scriptn : Int))) (onP scripta fun a ↦ ((0 : Int) ≤ s ∧ s < (↑scriptn : Int)) ∧ ∃ i i_1 b i_2 i_3 i_4 s_1 s_2 i_5, Ld
 Tryz.prog 49 w' (Addr.add a (Int.toNat s * 9)) (Value.agg #[Value.int IntKind.i64 i, Value.int IntKind.i64 i_1, Value.bool b, Value.int IntKind.i64 i_2, Value.int IntKind.i64 i_3, Value.int
 IntKind.i64 i_4, Value.string s_1, Value.string s_2, Value.int IntKind.i64 i_5]) ∧ ∀ b_1 w1, New w' (Obj.cells #[Value.int IntKind.i64 0, Value.int IntKind.i64 0, Value.bool false, Value.int
 IntKind.i64 0, Value.int IntKind.i64 0, Value.int IntKind.i64 0, Value.string (ByteArray.mk #[]), Value.string (ByteArray.mk #[]), Value.int IntKind.i64 0] 49) b_1 w1 → ∃ w1_1, St Tryz.prog
 49 w1 (Addr.mk b_1 0 none) (Value.agg #[Value.int IntKind.i64 i, Value.int IntKind.i64 i_1, Value.bool b, Value.int IntKind.i64 i_2, Value.int IntKind.i64 i_3, Value.int IntKind.i64 i_4, Value.string
 s_1, Value.string s_2, Value.int IntKind.i64 i_5]) w1_1 ∧ ∃ i, Ld Tryz.prog 3 w1_1 (Addr.mk b_1 1 none) (Value.int IntKind.i64 i) ∧ br (decide ((12 : Int) ≤ i)) (∃ i, Ld Tryz.prog 3
 w1_1 (Addr.mk b_1 1 none) (Value.int IntKind.i64 i) ∧ br (decide (i < (4096 : Int))) (R (Ending.returned (Value.bool false)) w1_1) (∃ i, Ld Tryz.prog 3 w1_1 (Addr.mk b_1 8 none) (Value.int
 IntKind.i64 i) ∧ br (decide (i < (0 : Int))) (R (Ending.returned (Value.bool false)) w1_1) (∃ i, Ld Tryz.prog 3 w1_1 (Addr.mk b_1 8 none) (Value.int IntKind.i64 i) ∧ br (decide
 ((4611686018427387904 : Int) < i)) (R (Ending.returned (Value.bool false)) w1_1) (∃ s_3, Ld Tryz.prog 9 w1_1 (Addr.mk b_1 7 none) (Value.string s_3) ∧ br (decide ((3600 : Int) <
 (↑(ByteArray.size s_3) : Int))) (R (Ending.returned (Value.bool false)) w1_1) (inR IntKind.i64 (s + (1 : Int)) ∧ next (s + (1 : Int)) w1_1))))) (∃ i, Ld Tryz.prog 3 w1_1 (Addr.mk b_1 8 none)
 (Value.int IntKind.i64 i) ∧ br (decide (i < (0 : Int))) (R (Ending.returned (Value.bool false)) w1_1) (∃ i, Ld Tryz.prog 3 w1_1 (Addr.mk b_1 8 none) (Value.int IntKind.i64 i) ∧ br (decide
 ((4611686018427387904 : Int) < i)) (R (Ending.returned (Value.bool false)) w1_1) (∃ s_3, Ld Tryz.prog 9 w1_1 (Addr.mk b_1 7 none) (Value.string s_3) ∧ br (decide ((3600 : Int) <
 (↑(ByteArray.size s_3) : Int))) (R (Ending.returned (Value.bool false)) w1_1) (inR IntKind.i64 (s + (1 : Int)) ∧ next (s + (1 : Int)) w1_1))))) (R (Ending.returned (Value.bool (decide ((↑scriptn :
 Int) ≤ (200 : Int))))) w')) (0 : Int) w
theorem few.eq (scripta : Option Addr) (scriptn : Nat) (scriptc : Nat) (w : World) (R : Ending → World → Prop) : bodyV Tryz.prog few.an Tryz.f4 [.slice scripta scriptn scriptc] w R = few.vc scripta scriptn scriptc w R := by kernel_rfl
theorem few.ok (scripta : Option Addr) (scriptn : Nat) (scriptc : Nat) (w : World) (R : Ending → World → Prop) (h : few.vc scripta scriptn scriptc w R) : Calls Tryz.prog 4 #[.slice scripta scriptn scriptc] w R :=
  calls_of_bodyV noNum (an := few.an) (args := [.slice scripta scriptn scriptc]) Tryz.func4 (by kernel_rfl) ((few.eq scripta scriptn scriptc w R).mpr h)

/-- (*incunable/incunablelaw12.desk).plays -/
def plays.an : An := { wraps := [], loops := [(2, [(16, .inl .i64)])], joins := [], ranges := [] }
def plays.vc (k : Option Addr) (r_Pagesa : Option Addr) (r_Pagesn : Nat) (r_Pagesc : Nat) (r_Pinsa : Option Addr) (r_Pinsn : Nat) (r_Pinsc : Nat) (r_Many : Int) (scripta : Option Addr) (scriptn : Nat) (scriptc : Nat) (w : World) (R : Ending → World → Prop) : Prop := ∀ b w1, New w (Obj.cells #[Value.slice r_Pagesa r_Pagesn r_Pagesc, Value.slice r_Pinsa r_Pinsn r_Pinsc, Value.int IntKind.i64 r_Many] 30) b w1 → ∀ b_1 w1_1, New w1 (Obj.cells #[Value.slice none 0 0,
 Value.slice none 0 0, Value.int IntKind.i64 0] 30) b_1 w1_1 → LoopP (fun (s : Int) (w' : World) (next : Int → World → Prop) ↦ br (decide (s < (↑scriptn : Int))) (onP scripta fun a ↦ ((0 : Int) ≤ s ∧ s
 < (↑scriptn : Int)) ∧ ∃ i i_1 b_2 i_2 i_3 i_4 s_1 s_2 i_5, Ld Tryz.prog 49 w' (Addr.add a (Int.toNat s * 9)) (Value.agg #[Value.int IntKind.i64 i, Value.int IntKind.i64 i_1, Value.bool b_2,
 Value.int IntKind.i64 i_2, Value.int IntKind.i64 i_3, Value.int IntKind.i64 i_4, Value.string s_1, Value.string s_2, Value.int IntKind.i64 i_5]) ∧ ∀ b_3 w1, New w' (Obj.cells #[Value.int IntKind.i64
 0, Value.int IntKind.i64 0, Value.bool false, Value.int IntKind.i64 0, Value.int IntKind.i64 0, Value.int IntKind.i64 0, Value.string (ByteArray.mk #[]), Value.string (ByteArray.mk #[]), Value.int
 IntKind.i64 0] 49) b_3 w1 → ∃ w1_2, St Tryz.prog 49 w1 (Addr.mk b_3 0 none) (Value.agg #[Value.int IntKind.i64 i, Value.int IntKind.i64 i_1, Value.bool b_2, Value.int IntKind.i64 i_2,
 Value.int IntKind.i64 i_3, Value.int IntKind.i64 i_4, Value.string s_1, Value.string s_2, Value.int IntKind.i64 i_5]) w1_2 ∧ ∃ a l c a_1 l_1 c_1 i, Ld Tryz.prog 30 w1_2 (Addr.mk b 0 none)
 (Value.agg #[Value.slice a l c, Value.slice a_1 l_1 c_1, Value.int IntKind.i64 i]) ∧ ∃ i_6 i_7 b_4 i_8 i_9 i_10 s_3 s_4 i_11, Ld Tryz.prog 49 w1_2 (Addr.mk b_3 0 none) (Value.agg #[Value.int
 IntKind.i64 i_6, Value.int IntKind.i64 i_7, Value.bool b_4, Value.int IntKind.i64 i_8, Value.int IntKind.i64 i_9, Value.int IntKind.i64 i_10, Value.string s_3, Value.string s_4, Value.int IntKind.i64
 i_11]) ∧ CallV Tryz.prog 20 [Value.agg #[Value.slice a l c, Value.slice a_1 l_1 c_1, Value.int IntKind.i64 i], Value.agg #[Value.int IntKind.i64 i_6, Value.int IntKind.i64 i_7, Value.bool
 b_4, Value.int IntKind.i64 i_8, Value.int IntKind.i64 i_9, Value.int IntKind.i64 i_10, Value.string s_3, Value.string s_4, Value.int IntKind.i64 i_11]] w1_2 fun e w' ↦ ∃ a l c a_2 l_2 c_2 i i_12, e =
 Ending.returned (Value.tuple #[Value.agg #[Value.slice a l c, Value.slice a_2 l_2 c_2, Value.int IntKind.i64 i], Value.int IntKind.i64 i_12]) ∧ ∀ b_5 w1, New w' (Obj.cells #[Value.slice none 0 0,
 Value.slice none 0 0, Value.int IntKind.i64 0] 30) b_5 w1 → ∃ w1_3, St Tryz.prog 30 w1 (Addr.mk b_5 0 none) (Value.agg #[Value.slice a l c, Value.slice a_2 l_2 c_2, Value.int IntKind.i64 i])
 w1_3 ∧ ∃ a l c a_4 l_3 c_3 i, Ld Tryz.prog 30 w1_3 (Addr.mk b_5 0 none) (Value.agg #[Value.slice a l c, Value.slice a_4 l_3 c_3, Value.int IntKind.i64 i]) ∧ ∃ w1, St Tryz.prog 30
 w1_3 (Addr.mk b 0 none) (Value.agg #[Value.slice a l c, Value.slice a_4 l_3 c_3, Value.int IntKind.i64 i]) w1 ∧ ∃ i, Ld Tryz.prog 3 w1 (Addr.mk b_3 0 none) (Value.int IntKind.i64 i) ∧ br
 (decide (i = (2 : Int))) (∃ i, Ld Tryz.prog 3 w1 (Addr.mk b_3 1 none) (Value.int IntKind.i64 i) ∧ br (decide ((0 : Int) ≤ i)) (∃ i, Ld Tryz.prog 3 w1 (Addr.mk b_3 1 none) (Value.int
 IntKind.i64 i) ∧ br (decide (i < (12 : Int))) (∃ a l c, Ld Tryz.prog 23 w1 (Addr.mk b 1 none) (Value.slice a l c) ∧ ∃ i, Ld Tryz.prog 3 w1 (Addr.mk b_3 1 none) (Value.int IntKind.i64
 i) ∧ onP a fun a ↦ ((0 : Int) ≤ i ∧ i < (↑l : Int)) ∧ ∃ i_13, Ld Tryz.prog 3 w1 (Addr.add a (Int.toNat i * 1)) (Value.int IntKind.i64 i_13) ∧ br (decide (i_13 = (0 : Int))) (inR IntKind.i64
 (s + (1 : Int)) ∧ next (s + (1 : Int)) w1) (∃ i i_14 b_6 i_15 i_16 i_17, ∃ (s_5 : ByteArray), ∃ (s_6 : ByteArray), ∃ (i_18 : Int), Ld Tryz.prog 49 w1 (Addr.mk b_3 0 none) (Value.agg
 #[Value.int IntKind.i64 i, Value.int IntKind.i64 i_14, Value.bool b_6, Value.int IntKind.i64 i_15, Value.int IntKind.i64 i_16, Value.int IntKind.i64 i_17, Value.string s_5, Value.string s_6, Value.int
 IntKind.i64 i_18]) ∧ CallV Tryz.prog 21 [Value.pointer k, Value.agg #[Value.int IntKind.i64 i, Value.int IntKind.i64 i_14, Value.bool b_6, Value.int IntKind.i64 i_15, Value.int IntKind.i64
 i_16, Value.int IntKind.i64 i_17, Value.string s_5, Value.string s_6, Value.int IntKind.i64 i_18]] w1 fun (e : Ending) (w' : World) ↦ ∃ (i : Int), e = Ending.returned (Value.int IntKind.i64 i) ∧ br
 (!decide (i = i_12)) (∃ (a : Option Addr), ∃ (l : Nat), ∃ (c : Nat), ∃ (a_5 : Option Addr), ∃ (l_4 : Nat), ∃ (c_4 : Nat), ∃ (i : Int), Ld Tryz.prog 30 w' (Addr.mk b 0 none) (Value.agg
 #[Value.slice a l c, Value.slice a_5 l_4 c_4, Value.int IntKind.i64 i]) ∧ ∃ (w1 : World), St Tryz.prog 30 w' (Addr.mk b_1 0 none) (Value.agg #[Value.slice a l c, Value.slice a_5 l_4 c_4,
 Value.int IntKind.i64 i]) w1 ∧ ∃ (a : Option Addr), ∃ (l : Nat), ∃ (c : Nat), ∃ (a_6 : Option Addr), ∃ (l_5 : Nat), ∃ (c_5 : Nat), ∃ (i : Int), Ld Tryz.prog 30 w1 (Addr.mk b_1 0 none)
 (Value.agg #[Value.slice a l c, Value.slice a_6 l_5 c_5, Value.int IntKind.i64 i]) ∧ R (Ending.returned (Value.tuple #[Value.agg #[Value.slice a l c, Value.slice a_6 l_5 c_5, Value.int IntKind.i64 i],
 Value.bool false])) w1) (onP k fun (a : Addr) ↦ ∃ (p : Option Addr), Ld Tryz.prog 36 (World.drew w') (Addr.add a 1) (Value.pointer p) ∧ onP k fun (a : Addr) ↦ ∃ (p_1 : Option Addr), Ld
 Tryz.prog 36 (World.drew w') (Addr.add a 1) (Value.pointer p_1) ∧ CallV Tryz.prog 22 [Value.pointer p] (World.drew w') fun (e : Ending) (w' : World) ↦ ∃ (a_5 : Option Addr), ∃ (l :
 Nat), ∃ (c : Nat), e = Ending.returned (Value.slice a_5 l c) ∧ Ld Tryz.prog 36 w' (Addr.add a 1) (Value.pointer p_1) ∧ CallV Tryz.prog 11 [Value.pointer p_1] w' fun (e : Ending) (w'
 : World) ↦ ∃ (a : Option Addr), ∃ (l_4 : Nat), ∃ (c : Nat), e = Ending.returned (Value.slice a l_4 c) ∧ ∃ (i : Int), Ld Tryz.prog 3 w' (Addr.mk b 2 none) (Value.int IntKind.i64 i) ∧ br
 (decide (i < (↑l : Int))) (∃ (a : Option Addr), ∃ (l : Nat), ∃ (c : Nat), ∃ (a_6 : Option Addr), ∃ (l_5 : Nat), ∃ (c_4 : Nat), ∃ (i : Int), Ld Tryz.prog 30 w' (Addr.mk b 0 none) (Value.agg
 #[Value.slice a l c, Value.slice a_6 l_5 c_4, Value.int IntKind.i64 i]) ∧ ∃ (w1 : World), St Tryz.prog 30 w' (Addr.mk b_1 0 none) (Value.agg #[Value.slice a l c, Value.slice a_6 l_5 c_4,
 Value.int IntKind.i64 i]) w1 ∧ ∃ (a : Option Addr), ∃ (l : Nat), ∃ (c : Nat), ∃ (a_7 : Option Addr), ∃ (l_6 : Nat), ∃ (c_5 : Nat), ∃ (i : Int), Ld Tryz.prog 30 w1 (Addr.mk b_1 0 none)
 (Value.agg #[Value.slice a l c, Value.slice a_7 l_6 c_5, Value.int IntKind.i64 i]) ∧ R (Ending.returned (Value.tuple #[Value.agg #[Value.slice a l c, Value.slice a_7 l_6 c_5, Value.int IntKind.i64 i],
 Value.bool false])) w1) (br (decide ((↑l : Int) < (↑l_4 : Int))) (∃ (a : Option Addr), ∃ (l : Nat), ∃ (c : Nat), ∃ (a_6 : Option Addr), ∃ (l_5 : Nat), ∃ (c_4 : Nat), ∃ (i : Int), Ld Tryz.prog
 30 w' (Addr.mk b 0 none) (Value.agg #[Value.slice a l c, Value.slice a_6 l_5 c_4, Value.int IntKind.i64 i]) ∧ ∃ (w1 : World), St Tryz.prog 30 w' (Addr.mk b_1 0 none) (Value.agg #[Value.slice
 a l c, Value.slice a_6 l_5 c_4, Value.int IntKind.i64 i]) w1 ∧ ∃ (a : Option Addr), ∃ (l : Nat), ∃ (c : Nat), ∃ (a_7 : Option Addr), ∃ (l_6 : Nat), ∃ (c_5 : Nat), ∃ (i : Int), Ld Tryz.prog 30
 w1 (Addr.mk b_1 0 none) (Value.agg #[Value.slice a l c, Value.slice a_7 l_6 c_5, Value.int IntKind.i64 i]) ∧ R (Ending.returned (Value.tuple #[Value.agg #[Value.slice a l c, Value.slice a_7 l_6 c_5,
 Value.int IntKind.i64 i], Value.bool false])) w1) (inR IntKind.i64 (s + (1 : Int)) ∧ next (s + (1 : Int)) w'))))) (∃ i i_13 b_6 i_14 i_15 i_16 s_5 s_6 i_17, Ld Tryz.prog 49 w1 (Addr.mk b_3 0
 none) (Value.agg #[Value.int IntKind.i64 i, Value.int IntKind.i64 i_13, Value.bool b_6, Value.int IntKind.i64 i_14, Value.int IntKind.i64 i_15, Value.int IntKind.i64 i_16, Value.string s_5,
 Value.string s_6, Value.int IntKind.i64 i_17]) ∧ CallV Tryz.prog 21 [Value.pointer k, Value.agg #[Value.int IntKind.i64 i, Value.int IntKind.i64 i_13, Value.bool b_6, Value.int IntKind.i64
 i_14, Value.int IntKind.i64 i_15, Value.int IntKind.i64 i_16, Value.string s_5, Value.string s_6, Value.int IntKind.i64 i_17]] w1 fun (e : Ending) (w' : World) ↦ ∃ i, e = Ending.returned (Value.int
 IntKind.i64 i) ∧ br (!decide (i = i_12)) (∃ a l c, ∃ (a_5 : Option Addr), ∃ l_4 c_4 i, Ld Tryz.prog 30 w' (Addr.mk b 0 none) (Value.agg #[Value.slice a l c, Value.slice a_5 l_4 c_4, Value.int
 IntKind.i64 i]) ∧ ∃ (w1 : World), St Tryz.prog 30 w' (Addr.mk b_1 0 none) (Value.agg #[Value.slice a l c, Value.slice a_5 l_4 c_4, Value.int IntKind.i64 i]) w1 ∧ ∃ (a : Option Addr), ∃ (l :
 Nat), ∃ (c : Nat), ∃ (a_6 : Option Addr), ∃ (l_5 : Nat), ∃ (c_5 : Nat), ∃ (i : Int), Ld Tryz.prog 30 w1 (Addr.mk b_1 0 none) (Value.agg #[Value.slice a l c, Value.slice a_6 l_5 c_5, Value.int
 IntKind.i64 i]) ∧ R (Ending.returned (Value.tuple #[Value.agg #[Value.slice a l c, Value.slice a_6 l_5 c_5, Value.int IntKind.i64 i], Value.bool false])) w1) (onP k fun a ↦ ∃ p, Ld Tryz.prog
 36 (World.drew w') (Addr.add a 1) (Value.pointer p) ∧ onP k fun a ↦ ∃ (p_1 : Option Addr), Ld Tryz.prog 36 (World.drew w') (Addr.add a 1) (Value.pointer p_1) ∧ CallV Tryz.prog 22
 [Value.pointer p] (World.drew w') fun (e : Ending) (w' : World) ↦ ∃ (a_5 : Option Addr), ∃ (l : Nat), ∃ (c : Nat), e = Ending.returned (Value.slice a_5 l c) ∧ Ld Tryz.prog 36 w' (Addr.add a
 1) (Value.pointer p_1) ∧ CallV Tryz.prog 11 [Value.pointer p_1] w' fun (e : Ending) (w' : World) ↦ ∃ (a : Option Addr), ∃ (l_4 : Nat), ∃ (c : Nat), e = Ending.returned (Value.slice a l_4 c) ∧
 ∃ (i : Int), Ld Tryz.prog 3 w' (Addr.mk b 2 none) (Value.int IntKind.i64 i) ∧ br (decide (i < (↑l : Int))) (∃ (a : Option Addr), ∃ (l : Nat), ∃ (c : Nat), ∃ (a_6 : Option Addr), ∃ (l_5 :
 Nat), ∃ (c_4 : Nat), ∃ (i : Int), Ld Tryz.prog 30 w' (Addr.mk b 0 none) (Value.agg #[Value.slice a l c, Value.slice a_6 l_5 c_4, Value.int IntKind.i64 i]) ∧ ∃ (w1 : World), St
 Tryz.prog 30 w' (Addr.mk b_1 0 none) (Value.agg #[Value.slice a l c, Value.slice a_6 l_5 c_4, Value.int IntKind.i64 i]) w1 ∧ ∃ (a : Option Addr), ∃ (l : Nat), ∃ (c : Nat), ∃ (a_7 : Option
 Addr), ∃ (l_6 : Nat), ∃ (c_5 : Nat), ∃ (i : Int), Ld Tryz.prog 30 w1 (Addr.mk b_1 0 none) (Value.agg #[Value.slice a l c, Value.slice a_7 l_6 c_5, Value.int IntKind.i64 i]) ∧ R
 (Ending.returned (Value.tuple #[Value.agg #[Value.slice a l c, Value.slice a_7 l_6 c_5, Value.int IntKind.i64 i], Value.bool false])) w1) (br (decide ((↑l : Int) < (↑l_4 : Int))) (∃ (a : Option Addr),
 ∃ (l : Nat), ∃ (c : Nat), ∃ (a_6 : Option Addr), ∃ (l_5 : Nat), ∃ (c_4 : Nat), ∃ (i : Int), Ld Tryz.prog 30 w' (Addr.mk b 0 none) (Value.agg #[Value.slice a l c, Value.slice a_6 l_5 c_4,
 Value.int IntKind.i64 i]) ∧ ∃ (w1 : World), St Tryz.prog 30 w' (Addr.mk b_1 0 none) (Value.agg #[Value.slice a l c, Value.slice a_6 l_5 c_4, Value.int IntKind.i64 i]) w1 ∧ ∃ (a : Option
 Addr), ∃ (l : Nat), ∃ (c : Nat), ∃ (a_7 : Option Addr), ∃ (l_6 : Nat), ∃ (c_5 : Nat), ∃ (i : Int), Ld Tryz.prog 30 w1 (Addr.mk b_1 0 none) (Value.agg #[Value.slice a l c, Value.slice a_7 l_6
 c_5, Value.int IntKind.i64 i]) ∧ R (Ending.returned (Value.tuple #[Value.agg #[Value.slice a l c, Value.slice a_7 l_6 c_5, Value.int IntKind.i64 i], Value.bool false])) w1) (inR IntKind.i64 (s + (1 :
 Int)) ∧ next (s + (1 : Int)) w'))))) (∃ i i_13 b_6 i_14 i_15 i_16 s_5 s_6 i_17, Ld Tryz.prog 49 w1 (Addr.mk b_3 0 none) (Value.agg #[Value.int IntKind.i64 i, Value.int IntKind.i64 i_13,
 Value.bool b_6, Value.int IntKind.i64 i_14, Value.int IntKind.i64 i_15, Value.int IntKind.i64 i_16, Value.string s_5, Value.string s_6, Value.int IntKind.i64 i_17]) ∧ CallV Tryz.prog 21
 [Value.pointer k, Value.agg #[Value.int IntKind.i64 i, Value.int IntKind.i64 i_13, Value.bool b_6, Value.int IntKind.i64 i_14, Value.int IntKind.i64 i_15, Value.int IntKind.i64 i_16, Value.string s_5,
 Value.string s_6, Value.int IntKind.i64 i_17]] w1 fun e w' ↦ ∃ i, e = Ending.returned (Value.int IntKind.i64 i) ∧ br (!decide (i = i_12)) (∃ a l c a_5 l_4 c_4 i, Ld Tryz.prog 30 w' (Addr.mk b
 0 none) (Value.agg #[Value.slice a l c, Value.slice a_5 l_4 c_4, Value.int IntKind.i64 i]) ∧ ∃ (w1 : World), St Tryz.prog 30 w' (Addr.mk b_1 0 none) (Value.agg #[Value.slice a l c,
 Value.slice a_5 l_4 c_4, Value.int IntKind.i64 i]) w1 ∧ ∃ (a : Option Addr), ∃ (l : Nat), ∃ (c : Nat), ∃ (a_6 : Option Addr), ∃ (l_5 : Nat), ∃ (c_5 : Nat), ∃ (i : Int), Ld Tryz.prog 30 w1
 (Addr.mk b_1 0 none) (Value.agg #[Value.slice a l c, Value.slice a_6 l_5 c_5, Value.int IntKind.i64 i]) ∧ R (Ending.returned (Value.tuple #[Value.agg #[Value.slice a l c, Value.slice a_6 l_5 c_5,
 Value.int IntKind.i64 i], Value.bool false])) w1) (onP k fun a ↦ ∃ p, Ld Tryz.prog 36 (World.drew w') (Addr.add a 1) (Value.pointer p) ∧ onP k fun a ↦ ∃ p_1, Ld Tryz.prog 36
 (World.drew w') (Addr.add a 1) (Value.pointer p_1) ∧ CallV Tryz.prog 22 [Value.pointer p] (World.drew w') fun (e : Ending) (w' : World) ↦ ∃ (a_5 : Option Addr), ∃ l c, e = Ending.returned
 (Value.slice a_5 l c) ∧ Ld Tryz.prog 36 w' (Addr.add a 1) (Value.pointer p_1) ∧ CallV Tryz.prog 11 [Value.pointer p_1] w' fun (e : Ending) (w' : World) ↦ ∃ (a : Option Addr), ∃ (l_4
 : Nat), ∃ (c : Nat), e = Ending.returned (Value.slice a l_4 c) ∧ ∃ (i : Int), Ld Tryz.prog 3 w' (Addr.mk b 2 none) (Value.int IntKind.i64 i) ∧ br (decide (i < (↑l : Int))) (∃ (a : Option
 Addr), ∃ (l : Nat), ∃ (c : Nat), ∃ (a_6 : Option Addr), ∃ (l_5 : Nat), ∃ (c_4 : Nat), ∃ (i : Int), Ld Tryz.prog 30 w' (Addr.mk b 0 none) (Value.agg #[Value.slice a l c, Value.slice a_6 l_5
 c_4, Value.int IntKind.i64 i]) ∧ ∃ (w1 : World), St Tryz.prog 30 w' (Addr.mk b_1 0 none) (Value.agg #[Value.slice a l c, Value.slice a_6 l_5 c_4, Value.int IntKind.i64 i]) w1 ∧ ∃ (a : Option
 Addr), ∃ (l : Nat), ∃ (c : Nat), ∃ (a_7 : Option Addr), ∃ (l_6 : Nat), ∃ (c_5 : Nat), ∃ (i : Int), Ld Tryz.prog 30 w1 (Addr.mk b_1 0 none) (Value.agg #[Value.slice a l c, Value.slice a_7 l_6
 c_5, Value.int IntKind.i64 i]) ∧ R (Ending.returned (Value.tuple #[Value.agg #[Value.slice a l c, Value.slice a_7 l_6 c_5, Value.int IntKind.i64 i], Value.bool false])) w1) (br (decide ((↑l : Int) <
 (↑l_4 : Int))) (∃ (a : Option Addr), ∃ (l : Nat), ∃ (c : Nat), ∃ (a_6 : Option Addr), ∃ (l_5 : Nat), ∃ (c_4 : Nat), ∃ (i : Int), Ld Tryz.prog 30 w' (Addr.mk b 0 none) (Value.agg #[Value.slice
 a l c, Value.slice a_6 l_5 c_4, Value.int IntKind.i64 i]) ∧ ∃ (w1 : World), St Tryz.prog 30 w' (Addr.mk b_1 0 none) (Value.agg #[Value.slice a l c, Value.slice a_6 l_5 c_4, Value.int
 IntKind.i64 i]) w1 ∧ ∃ (a : Option Addr), ∃ (l : Nat), ∃ (c : Nat), ∃ (a_7 : Option Addr), ∃ (l_6 : Nat), ∃ (c_5 : Nat), ∃ (i : Int), Ld Tryz.prog 30 w1 (Addr.mk b_1 0 none) (Value.agg
 #[Value.slice a l c, Value.slice a_7 l_6 c_5, Value.int IntKind.i64 i]) ∧ R (Ending.returned (Value.tuple #[Value.agg #[Value.slice a l c, Value.slice a_7 l_6 c_5, Value.int IntKind.i64 i], Value.bool
 false])) w1) (inR IntKind.i64 (s + (1 : Int)) ∧ next (s + (1 : Int)) w'))))) (∃ i i_13 b_6 i_14 i_15 i_16 s_5 s_6 i_17, Ld Tryz.prog 49 w1 (Addr.mk b_3 0 none) (Value.agg #[Value.int
 IntKind.i64 i, Value.int IntKind.i64 i_13, Value.bool b_6, Value.int IntKind.i64 i_14, Value.int IntKind.i64 i_15, Value.int IntKind.i64 i_16, Value.string s_5, Value.string s_6, Value.int IntKind.i64
 i_17]) ∧ CallV Tryz.prog 21 [Value.pointer k, Value.agg #[Value.int IntKind.i64 i, Value.int IntKind.i64 i_13, Value.bool b_6, Value.int IntKind.i64 i_14, Value.int IntKind.i64 i_15,
 Value.int IntKind.i64 i_16, Value.string s_5, Value.string s_6, Value.int IntKind.i64 i_17]] w1 fun e w' ↦ ∃ i, e = Ending.returned (Value.int IntKind.i64 i) ∧ br (!decide (i = i_12)) (∃ a l c a_5 l_4
 c_4 i, Ld Tryz.prog 30 w' (Addr.mk b 0 none) (Value.agg #[Value.slice a l c, Value.slice a_5 l_4 c_4, Value.int IntKind.i64 i]) ∧ ∃ w1, St Tryz.prog 30 w' (Addr.mk b_1 0 none)
 (Value.agg #[Value.slice a l c, Value.slice a_5 l_4 c_4, Value.int IntKind.i64 i]) w1 ∧ ∃ (a : Option Addr), ∃ l c, ∃ (a_6 : Option Addr), ∃ (l_5 : Nat), ∃ (c_5 : Nat), ∃ (i : Int), Ld
 Tryz.prog 30 w1 (Addr.mk b_1 0 none) (Value.agg #[Value.slice a l c, Value.slice a_6 l_5 c_5, Value.int IntKind.i64 i]) ∧ R (Ending.returned (Value.tuple #[Value.agg #[Value.slice a l c,
 Value.slice a_6 l_5 c_5, Value.int IntKind.i64 i], Value.bool false])) w1) (onP k fun a ↦ ∃ p, Ld Tryz.prog 36 (World.drew w') (Addr.add a 1) (Value.pointer p) ∧ onP k fun a ↦ ∃ p_1, Ld
 Tryz.prog 36 (World.drew w') (Addr.add a 1) (Value.pointer p_1) ∧ CallV Tryz.prog 22 [Value.pointer p] (World.drew w') fun (e : Ending) (w' : World) ↦ ∃ a_5 l c, e = Ending.returned
 (Value.slice a_5 l c) ∧ Ld Tryz.prog 36 w' (Addr.add a 1) (Value.pointer p_1) ∧ CallV Tryz.prog 11 [Value.pointer p_1] w' fun (e : Ending) (w' : World) ↦ ∃ (a : Option Addr), ∃ (l_4
 : Nat), ∃ (c : Nat), e = Ending.returned (Value.slice a l_4 c) ∧ ∃ (i : Int), Ld Tryz.prog 3 w' (Addr.mk b 2 none) (Value.int IntKind.i64 i) ∧ br (decide (i < (↑l : Int))) (∃ (a : Option
 Addr), ∃ (l : Nat), ∃ (c : Nat), ∃ (a_6 : Option Addr), ∃ (l_5 : Nat), ∃ (c_4 : Nat), ∃ (i : Int), Ld Tryz.prog 30 w' (Addr.mk b 0 none) (Value.agg #[Value.slice a l c, Value.slice a_6 l_5
 c_4, Value.int IntKind.i64 i]) ∧ ∃ (w1 : World), St Tryz.prog 30 w' (Addr.mk b_1 0 none) (Value.agg #[Value.slice a l c, Value.slice a_6 l_5 c_4, Value.int IntKind.i64 i]) w1 ∧ ∃ (a : Option
 Addr), ∃ (l : Nat), ∃ (c : Nat), ∃ (a_7 : Option Addr), ∃ (l_6 : Nat), ∃ (c_5 : Nat), ∃ (i : Int), Ld Tryz.prog 30 w1 (Addr.mk b_1 0 none) (Value.agg #[Value.slice a l c, Value.slice a_7 l_6
 c_5, Value.int IntKind.i64 i]) ∧ R (Ending.returned (Value.tuple #[Value.agg #[Value.slice a l c, Value.slice a_7 l_6 c_5, Value.int IntKind.i64 i], Value.bool false])) w1) (br (decide ((↑l : Int) <
 (↑l_4 : Int))) (∃ (a : Option Addr), ∃ (l : Nat), ∃ (c : Nat), ∃ (a_6 : Option Addr), ∃ (l_5 : Nat), ∃ (c_4 : Nat), ∃ (i : Int), Ld Tryz.prog 30 w' (Addr.mk b 0 none) (Value.agg #[Value.slice
 a l c, Value.slice a_6 l_5 c_4, Value.int IntKind.i64 i]) ∧ ∃ (w1 : World), St Tryz.prog 30 w' (Addr.mk b_1 0 none) (Value.agg #[Value.slice a l c, Value.slice a_6 l_5 c_4, Value.int
 IntKind.i64 i]) w1 ∧ ∃ (a : Option Addr), ∃ (l : Nat), ∃ (c : Nat), ∃ (a_7 : Option Addr), ∃ (l_6 : Nat), ∃ (c_5 : Nat), ∃ (i : Int), Ld Tryz.prog 30 w1 (Addr.mk b_1 0 none) (Value.agg
 #[Value.slice a l c, Value.slice a_7 l_6 c_5, Value.int IntKind.i64 i]) ∧ R (Ending.returned (Value.tuple #[Value.agg #[Value.slice a l c, Value.slice a_7 l_6 c_5, Value.int IntKind.i64 i], Value.bool
 false])) w1) (inR IntKind.i64 (s + (1 : Int)) ∧ next (s + (1 : Int)) w'))))) (∃ a l c a_1 l_1 c_1 i, Ld Tryz.prog 30 w' (Addr.mk b 0 none) (Value.agg #[Value.slice a l c, Value.slice a_1 l_1
 c_1, Value.int IntKind.i64 i]) ∧ ∃ w1, St Tryz.prog 30 w' (Addr.mk b_1 0 none) (Value.agg #[Value.slice a l c, Value.slice a_1 l_1 c_1, Value.int IntKind.i64 i]) w1 ∧ ∃ a l c a_2 l_2 c_2 i,
 Ld Tryz.prog 30 w1 (Addr.mk b_1 0 none) (Value.agg #[Value.slice a l c, Value.slice a_2 l_2 c_2, Value.int IntKind.i64 i]) ∧ R (Ending.returned (Value.tuple #[Value.agg #[Value.slice a l c,
 Value.slice a_2 l_2 c_2, Value.int IntKind.i64 i], Value.bool true])) w1)) (0 : Int) w1_1
theorem plays.eq (k : Option Addr) (r_Pagesa : Option Addr) (r_Pagesn : Nat) (r_Pagesc : Nat) (r_Pinsa : Option Addr) (r_Pinsn : Nat) (r_Pinsc : Nat) (r_Many : Int) (scripta : Option Addr) (scriptn : Nat) (scriptc : Nat) (w : World) (R : Ending → World → Prop) : bodyV Tryz.prog plays.an Tryz.f7 [.pointer k, .agg #[.slice r_Pagesa r_Pagesn r_Pagesc, .slice r_Pinsa r_Pinsn r_Pinsc, .int .i64 r_Many], .slice scripta scriptn scriptc] w R = plays.vc k r_Pagesa r_Pagesn r_Pagesc r_Pinsa r_Pinsn r_Pinsc r_Many scripta scriptn scriptc w R := by kernel_rfl
theorem plays.ok (k : Option Addr) (r_Pagesa : Option Addr) (r_Pagesn : Nat) (r_Pagesc : Nat) (r_Pinsa : Option Addr) (r_Pinsn : Nat) (r_Pinsc : Nat) (r_Many : Int) (scripta : Option Addr) (scriptn : Nat) (scriptc : Nat) (w : World) (R : Ending → World → Prop) (h : plays.vc k r_Pagesa r_Pagesn r_Pagesc r_Pinsa r_Pinsn r_Pinsc r_Many scripta scriptn scriptc w R) : Calls Tryz.prog 7 #[.pointer k, .agg #[.slice r_Pagesa r_Pagesn r_Pagesc, .slice r_Pinsa r_Pinsn r_Pinsc, .int .i64 r_Many], .slice scripta scriptn scriptc] w R :=
  calls_of_bodyV noNum (an := plays.an) (args := [.pointer k, .agg #[.slice r_Pagesa r_Pagesn r_Pagesc, .slice r_Pinsa r_Pinsn r_Pinsc, .int .i64 r_Many], .slice scripta scriptn scriptc]) Tryz.func7 (by kernel_rfl) ((plays.eq k r_Pagesa r_Pagesn r_Pagesc r_Pinsa r_Pinsn r_Pinsc r_Many scripta scriptn scriptc w R).mpr h)

/-- incunable/incunablelaw12.same -/
def same.an : An := { wraps := [], loops := [(5, [(28, .inl .i64)])], joins := [], ranges := [] }
def same.vc (x : Option Addr) (r_La : Option Addr) (r_Ln : Nat) (r_Lc : Nat) (r_Stamp : Int) (w : World) (R : Ending → World → Prop) : Prop := ∀ b w1, New w (Obj.cells #[Value.slice r_La r_Ln r_Lc, Value.int IntKind.i64 r_Stamp] 88) b w1 → CallV Tryz.prog 63 [Value.pointer x] w1 fun e w' ↦ ∃ a l c, e = Ending.returned (Value.slice a
 l c) ∧ ∃ a_1 l_1 c, Ld Tryz.prog 86 (World.drew w') (Addr.mk b 0 none) (Value.slice a_1 l_1 c) ∧ br (!decide ((↑l : Int) = (↑l_1 : Int))) (R (Ending.returned (Value.bool false)) (World.drew
 w')) (∃ i, Ld Tryz.prog 3 (World.drew w') (Addr.mk b 1 none) (Value.int IntKind.i64 i) ∧ CallV Tryz.prog 53 [Value.pointer x] (World.drew w') fun e w' ↦ ∃ i_1, e = Ending.returned
 (Value.int IntKind.i64 i_1) ∧ Ld Tryz.prog 3 w' (Addr.mk b 1 none) (Value.int IntKind.i64 i) ∧ br (!decide (i_1 = i)) (R (Ending.returned (Value.bool false)) w') (∃ a_2 l_2 c, Ld
 Tryz.prog 86 w' (Addr.mk b 0 none) (Value.slice a_2 l_2 c) ∧ LoopP (fun (s : Int) (w' : World) (next : Int → World → Prop) ↦ br (decide (s < (↑l_2 : Int))) (onP a_2 fun a_3 ↦ ((0 : Int) ≤ s ∧
 s < (↑l_2 : Int)) ∧ ∃ i s_1, Ld Tryz.prog 123 w' (Addr.add a_3 (Int.toNat s * 2)) (Value.agg #[Value.int IntKind.i64 i, Value.string s_1]) ∧ ∀ b w1, New w' (Obj.cells #[Value.int IntKind.i64
 0, Value.string (ByteArray.mk #[])] 123) b w1 → ∃ w1_1, St Tryz.prog 123 w1 (Addr.mk b 0 none) (Value.agg #[Value.int IntKind.i64 i, Value.string s_1]) w1_1 ∧ ∃ i, Ld Tryz.prog 3
 w1_1 (Addr.mk b 0 none) (Value.int IntKind.i64 i) ∧ CallV Tryz.prog 64 [Value.pointer x, Value.int IntKind.i64 i] w1_1 fun e w' ↦ ∃ s_2 b_1, e = Ending.returned (Value.tuple #[Value.string
 s_2, Value.bool b_1]) ∧ onP a fun a ↦ ((0 : Int) ≤ s ∧ s < (↑l : Int)) ∧ ∃ i, Ld Tryz.prog 3 (World.drew w') (Addr.add a (Int.toNat s * 1)) (Value.int IntKind.i64 i) ∧ ∃ i_2, Ld
 Tryz.prog 3 (World.drew w') (Addr.mk b 0 none) (Value.int IntKind.i64 i_2) ∧ br (!decide (i = i_2)) (R (Ending.returned (Value.bool false)) (World.drew w')) (∃ s_3, Ld Tryz.prog 9
 (World.drew w') (Addr.mk b 1 none) (Value.string s_3) ∧ br (!decide (s_2 = s_3)) (R (Ending.returned (Value.bool false)) (World.drew w')) (inR IntKind.i64 (s + (1 : Int)) ∧ next (s + (1 : Int))
 (World.drew w')))) (R (Ending.returned (Value.bool true)) w')) (0 : Int) w'))
theorem same.eq (x : Option Addr) (r_La : Option Addr) (r_Ln : Nat) (r_Lc : Nat) (r_Stamp : Int) (w : World) (R : Ending → World → Prop) : bodyV Tryz.prog same.an Tryz.f35 [.pointer x, .agg #[.slice r_La r_Ln r_Lc, .int .i64 r_Stamp]] w R = same.vc x r_La r_Ln r_Lc r_Stamp w R := by kernel_rfl
theorem same.ok (x : Option Addr) (r_La : Option Addr) (r_Ln : Nat) (r_Lc : Nat) (r_Stamp : Int) (w : World) (R : Ending → World → Prop) (h : same.vc x r_La r_Ln r_Lc r_Stamp w R) : Calls Tryz.prog 35 #[.pointer x, .agg #[.slice r_La r_Ln r_Lc, .int .i64 r_Stamp]] w R :=
  calls_of_bodyV noNum (an := same.an) (args := [.pointer x, .agg #[.slice r_La r_Ln r_Lc, .int .i64 r_Stamp]]) Tryz.func35 (by kernel_rfl) ((same.eq x r_La r_Ln r_Lc r_Stamp w R).mpr h)

/-- (*incunable/incunablelaw12.desk).stands -/
def stands.an : An := { wraps := [], loops := [(2, [(8, .inl .i64)])], joins := [], ranges := [] }
def stands.vc (k : Option Addr) (r_Pagesa : Option Addr) (r_Pagesn : Nat) (r_Pagesc : Nat) (r_Pinsa : Option Addr) (r_Pinsn : Nat) (r_Pinsc : Nat) (r_Many : Int) (w : World) (R : Ending → World → Prop) : Prop := ∀ b w1, New w (Obj.cells #[Value.slice r_Pagesa r_Pagesn r_Pagesc, Value.slice r_Pinsa r_Pinsn r_Pinsc, Value.int IntKind.i64 r_Many] 30) b w1 → LoopP (fun (s : Int) (w' : World) (next : Int → World →
 Prop) ↦ br (decide (s < (12 : Int))) (∃ a l c, Ld Tryz.prog 23 w' (Addr.mk b 1 none) (Value.slice a l c) ∧ onP a fun a ↦ ((0 : Int) ≤ s ∧ s < (↑l : Int)) ∧ ∃ i, Ld Tryz.prog 3 w'
 (Addr.add a (Int.toNat s * 1)) (Value.int IntKind.i64 i) ∧ br (decide ((0 : Int) < i)) (inR IntKind.i64 (s + (1 : Int)) ∧ next (s + (1 : Int)) w') (onP k fun a ↦ ∃ p, Ld Tryz.prog 36 w'
 (Addr.add a 1) (Value.pointer p) ∧ CallV Tryz.prog 15 [Value.pointer p, Value.int IntKind.i64 s] w' fun e w' ↦ ∃ p i, e = Ending.returned (Value.tuple #[Value.pointer p, Value.int IntKind.i64
 i]) ∧ br (decide (i = (120 : Int))) (inR IntKind.i64 (s + (1 : Int)) ∧ next (s + (1 : Int)) w') (br (!decide (i = (0 : Int))) (R (Ending.returned (Value.bool false)) w') (∃ b_1, Eqv Tryz.prog
 BinOp.eql 37 (Operand.tmp 31) (Operand.const (Value.pointer none)) w' (Value.pointer p) (Value.pointer none) b_1 ∧ br b_1 (R (Ending.returned (Value.bool false)) w') (∃ a l c, Ld Tryz.prog 28
 w' (Addr.mk b 0 none) (Value.slice a l c) ∧ onP a fun a ↦ ((0 : Int) ≤ s ∧ s < (↑l : Int)) ∧ ∃ a_1 l c i, Ld Tryz.prog 88 w' (Addr.add a (Int.toNat s * 2)) (Value.agg #[Value.slice a_1 l c,
 Value.int IntKind.i64 i]) ∧ CallV Tryz.prog 35 [Value.pointer p, Value.agg #[Value.slice a_1 l c, Value.int IntKind.i64 i]] w' fun e w' ↦ ∃ b, e = Ending.returned (Value.bool b) ∧ br (!b) (R
 (Ending.returned (Value.bool false)) w') (onP k fun a ↦ ∃ p, Ld Tryz.prog 36 w' (Addr.add a 1) (Value.pointer p) ∧ CallV Tryz.prog 17 [Value.pointer p, Value.int IntKind.i64 s,
 Value.bool false] w' fun e w' ↦ ∃ b, e = Ending.returned (Value.bool b) ∧ br (!b) (R (Ending.returned (Value.bool false)) w') (inR IntKind.i64 (s + (1 : Int)) ∧ next (s + (1 : Int)) w'))))))) (R
 (Ending.returned (Value.bool true)) w')) (0 : Int) w1
theorem stands.eq (k : Option Addr) (r_Pagesa : Option Addr) (r_Pagesn : Nat) (r_Pagesc : Nat) (r_Pinsa : Option Addr) (r_Pinsn : Nat) (r_Pinsc : Nat) (r_Many : Int) (w : World) (R : Ending → World → Prop) : bodyV Tryz.prog stands.an Tryz.f14 [.pointer k, .agg #[.slice r_Pagesa r_Pagesn r_Pagesc, .slice r_Pinsa r_Pinsn r_Pinsc, .int .i64 r_Many]] w R = stands.vc k r_Pagesa r_Pagesn r_Pagesc r_Pinsa r_Pinsn r_Pinsc r_Many w R := by kernel_rfl
theorem stands.ok (k : Option Addr) (r_Pagesa : Option Addr) (r_Pagesn : Nat) (r_Pagesc : Nat) (r_Pinsa : Option Addr) (r_Pinsn : Nat) (r_Pinsc : Nat) (r_Many : Int) (w : World) (R : Ending → World → Prop) (h : stands.vc k r_Pagesa r_Pagesn r_Pagesc r_Pinsa r_Pinsn r_Pinsc r_Many w R) : Calls Tryz.prog 14 #[.pointer k, .agg #[.slice r_Pagesa r_Pagesn r_Pagesc, .slice r_Pinsa r_Pinsn r_Pinsc, .int .i64 r_Many]] w R :=
  calls_of_bodyV noNum (an := stands.an) (args := [.pointer k, .agg #[.slice r_Pagesa r_Pagesn r_Pagesc, .slice r_Pinsa r_Pinsn r_Pinsc, .int .i64 r_Many]]) Tryz.func14 (by kernel_rfl) ((stands.eq k r_Pagesa r_Pagesn r_Pagesc r_Pinsa r_Pinsn r_Pinsc r_Many w R).mpr h)

/-- (*incunable/vault.Disk).SyncNames -/
def syncNames.an : An := { wraps := [], loops := [], joins := [], ranges := [] }
def syncNames.vc (d : Option Addr) (w : World) (R : Ending → World → Prop) : Prop := onP d fun a ↦ ∃ b, Ld Tryz.prog 4 w (Addr.add a 7) (Value.bool b) ∧ br b (R (Ending.returned (Value.int IntKind.i64 93)) w) (CallV Tryz.prog 28 [Value.pointer d] w fun e w' ↦ ∃ b, e =
 Ending.returned (Value.bool b) ∧ br b (R (Ending.returned (Value.int IntKind.i64 93)) w') (onP d fun a ↦ ∃ m, Ld Tryz.prog 73 w' (Addr.add a 2) (Value.map m) ∧ CallV Tryz.prog 29
 [Value.map m] w' fun e w' ↦ ∃ m, e = Ending.returned (Value.map m) ∧ onP d fun a ↦ ∃ w1, St Tryz.prog 73 w' (Addr.add a 3) (Value.map m) w1 ∧ onP d fun a ↦ ∃ w1_1, St Tryz.prog 74 w1
 (Addr.add a 4) (Value.slice none 0 0) w1_1 ∧ R (Ending.returned (Value.int IntKind.i64 0)) w1_1))
theorem syncNames.eq (d : Option Addr) (w : World) (R : Ending → World → Prop) : bodyV Tryz.prog syncNames.an Tryz.f10 [.pointer d] w R = syncNames.vc d w R := by kernel_rfl
theorem syncNames.ok (d : Option Addr) (w : World) (R : Ending → World → Prop) (h : syncNames.vc d w R) : Calls Tryz.prog 10 #[.pointer d] w R :=
  calls_of_bodyV noNum (an := syncNames.an) (args := [.pointer d]) Tryz.func10 (by kernel_rfl) ((syncNames.eq d w R).mpr h)

/-- (*incunable/vault.Disk).Crash -/
def crash.an : An := { wraps := [], loops := [(4, [(24, .inl .i64)]), (10, [(63, .inl .i64)])], joins := [], ranges := [] }
def crash.vc (d : Option Addr) (names : Int) (picksa : Option Addr) (picksn : Nat) (picksc : Nat) (w : World) (R : Ending → World → Prop) : Prop := ∀ b w1, New w (Obj.cells #[Value.slice picksa picksn picksc] 23) b w1 → onP d fun a ↦ ∃ i, Ld Tryz.prog 3 w1 a (Value.int IntKind.i64 i) ∧ CallV Tryz.prog 19 [Value.int IntKind.i64 i]
 w1 fun e w' ↦ ∃ p, e = Ending.returned (Value.pointer p) ∧ onP d fun a ↦ ∃ a_1 l c, Ld Tryz.prog 72 w' (Addr.add a 1) (Value.slice a_1 l c) ∧ LoopP (fun (s : Int) (w' : World) (next : Int →
 World → Prop) ↦ br (decide (s < (↑l : Int))) (onP a_1 fun a ↦ ((0 : Int) ≤ s ∧ s < (↑l : Int)) ∧ ∃ p_1, Ld Tryz.prog 79 w' (Addr.add a (Int.toNat s * 1)) (Value.pointer p_1) ∧ onP p fun a ↦ ∃
 a_2 l c, Ld Tryz.prog 72 (World.drew w') (Addr.add a 1) (Value.slice a_2 l c) ∧ CallV Tryz.prog 32 [Value.pointer p_1, Value.func (Fn.func 31) #[] #[Value.pointer (some (Addr.mk b 0
 none))]] (World.drew w') fun e w' ↦ ∃ p_2, e = Ending.returned (Value.pointer p_2) ∧ Ld Tryz.prog 72 w' (Addr.add a 1) (Value.slice a_2 l c) ∧ ∀ b w1, New w' (Obj.cells #[Value.pointer p_2]
 79) b w1 → Ld Tryz.prog 72 w1 (Addr.add a 1) (Value.slice a_2 l c) ∧ ∃ a n m w1_1, App Tryz.prog #[72, 72] 72 w1 (Value.slice a_2 l c) (Value.slice (some (Addr.mk b 0 none)) 1 1)
 (Value.slice a n m) w1_1 ∧ onP p fun a_4 ↦ ∃ w1, St Tryz.prog 72 w1_1 (Addr.add a_4 1) (Value.slice a n m) w1 ∧ inR IntKind.i64 (s + (1 : Int)) ∧ next (s + (1 : Int)) w1) (onP d fun a ↦ ∃ m,
 Ld Tryz.prog 73 w' (Addr.add a 3) (Value.map m) ∧ CallV Tryz.prog 29 [Value.map m] w' fun e w' ↦ ∃ m, e = Ending.returned (Value.map m) ∧ onP p fun a ↦ ∃ w1, St Tryz.prog 73
 w' (Addr.add a 2) (Value.map m) w1 ∧ onP d fun a ↦ ∃ a_2 l c, Ld Tryz.prog 74 (World.drew w1) (Addr.add a 4) (Value.slice a_2 l c) ∧ onP d fun a ↦ ∃ a_3 l c_1, Ld Tryz.prog 74
 (World.drew w1) (Addr.add a 4) (Value.slice a_3 l c_1) ∧ ((0 : Int) ≤ min (max names (0 : Int)) (↑l : Int) ∧ min (max names (0 : Int)) (↑l : Int) ≤ (↑c : Int)) ∧ LoopP (fun (s : Int) (w' : World)
 (next : Int → World → Prop) ↦ br (decide (s < (↑(Int.toNat (min (max names (0 : Int)) (↑l : Int))) : Int))) (onP a_2 fun a ↦ ((0 : Int) ≤ s ∧ s < (↑(Int.toNat (min (max names (0 : Int)) (↑l : Int))) :
 Int)) ∧ ∃ v, Ld Tryz.prog 82 w' (Addr.add a (Int.toNat s * 1)) v ∧ onP p fun a ↦ ∃ m, Ld Tryz.prog 73 w' (Addr.add a 2) (Value.map m) ∧ CallX Tryz.prog v [Value.map m] w'
 fun e w' ↦ e = Ending.returned (Value.tuple #[]) ∧ inR IntKind.i64 (s + (1 : Int)) ∧ next (s + (1 : Int)) w') (onP p fun a ↦ ∃ m, Ld Tryz.prog 73 w' (Addr.add a 2) (Value.map m) ∧ CallV
 Tryz.prog 29 [Value.map m] w' fun e w' ↦ ∃ m, e = Ending.returned (Value.map m) ∧ onP p fun a ↦ ∃ w1, St Tryz.prog 73 w' (Addr.add a 3) (Value.map m) w1 ∧ R (Ending.returned
 (Value.pointer p)) w1)) (0 : Int) (World.drew w1))) (0 : Int) w'
theorem crash.eq (d : Option Addr) (names : Int) (picksa : Option Addr) (picksn : Nat) (picksc : Nat) (w : World) (R : Ending → World → Prop) : bodyV Tryz.prog crash.an Tryz.f12 [.pointer d, .int .i64 names, .slice picksa picksn picksc] w R = crash.vc d names picksa picksn picksc w R := by kernel_rfl
theorem crash.ok (d : Option Addr) (names : Int) (picksa : Option Addr) (picksn : Nat) (picksc : Nat) (w : World) (R : Ending → World → Prop) (h : crash.vc d names picksa picksn picksc w R) : Calls Tryz.prog 12 #[.pointer d, .int .i64 names, .slice picksa picksn picksc] w R :=
  calls_of_bodyV noNum (an := crash.an) (args := [.pointer d, .int .i64 names, .slice picksa picksn picksc]) Tryz.func12 (by kernel_rfl) ((crash.eq d names picksa picksn picksc w R).mpr h)

/-- (*incunable/vault.Disk).Crash$1 -/
def crashC.an : An := { wraps := [], loops := [], joins := [], ranges := [] }
def crashC.vc (free0 : Option Addr) (w : World) (R : Ending → World → Prop) : Prop := ∃ a l c, (onP free0 fun a_1 ↦ Ld Tryz.prog 23 w a_1 (Value.slice a l c)) ∧ br (decide ((↑l : Int) = (0 : Int))) (R (Ending.returned (Value.int IntKind.i64 0)) w) (∃ a l c, (onP free0 fun a_1 ↦
 Ld Tryz.prog 23 w a_1 (Value.slice a l c)) ∧ onP a fun a ↦ ((0 : Int) ≤ (0 : Int) ∧ (0 : Int) < (↑l : Int)) ∧ ∃ i, Ld Tryz.prog 3 w a (Value.int IntKind.i64 i) ∧ ∃ a l c, (onP free0
 fun a_1 ↦ Ld Tryz.prog 23 w a_1 (Value.slice a l c)) ∧ ((0 : Int) ≤ (1 : Int) ∧ (1 : Int) ≤ (↑l : Int)) ∧ onP free0 fun a_1 ↦ ∃ w1, St Tryz.prog 23 w a_1 (Value.slice (slA a c
 (Int.toNat (1 : Int)) 1) (l - Int.toNat (1 : Int)) (c - Int.toNat (1 : Int))) w1 ∧ R (Ending.returned (Value.int IntKind.i64 i)) w1)
theorem crashC.eq (free0 : Option Addr) (w : World) (R : Ending → World → Prop) : bodyV Tryz.prog crashC.an Tryz.f31 [(.pointer free0)] w R = crashC.vc free0 w R := by kernel_rfl
theorem crashC.ok (free0 : Option Addr) (w : World) (R : Ending → World → Prop) (h : crashC.vc free0 w R) : Calls Tryz.prog 31 #[(.pointer free0)] w R :=
  calls_of_bodyV noNum (an := crashC.an) (args := [(.pointer free0)]) Tryz.func31 (by kernel_rfl) ((crashC.eq free0 w R).mpr h)

/-- (*incunable/vault.file).found -/
def found.an : An := { wraps := [], loops := [(3, [(5, .inr 3), (21, .inl .i64)]), (7, [(5, .inr 3)])], joins := [], ranges := [] }
def found.vc (f : Option Addr) (next : Value) (w : World) (R : Ending → World → Prop) : Prop := onP f fun a ↦ ∃ a_1 l c, Ld Tryz.prog 94 w (Addr.add a 1) (Value.slice a_1 l c) ∧ CallV Tryz.prog 58 [Value.slice a_1 l c] w fun e w' ↦ ∃ a l c, e = Ending.returned (Value.slice a l
 c) ∧ onP f fun a_2 ↦ ∃ m, Ld Tryz.prog 95 w' (Addr.add a_2 2) (Value.map m) ∧ CallV Tryz.prog 61 [Value.map m] w' fun e w' ↦ ∃ v, e = Ending.returned v ∧ CallV Tryz.prog 60
 [v] w' fun e w' ↦ ∃ a_3 l_1 c_1, e = Ending.returned (Value.slice a_3 l_1 c_1) ∧ LoopP (fun (s : (Option Addr × Nat × Nat) × Int) (w' : World) (next_1 : (Option Addr × Nat × Nat) × Int → World → Prop)
 ↦ br (decide (Prod.snd s < (↑l_1 : Int))) (onP a_3 fun a ↦ ((0 : Int) ≤ Prod.snd s ∧ Prod.snd s < (↑l_1 : Int)) ∧ ∃ i, Ld Tryz.prog 3 w' (Addr.add a (Int.toNat (Prod.snd s) * 1)) (Value.int
 IntKind.i64 i) ∧ CallX Tryz.prog next [] w' fun e w' ↦ ∃ i_1, e = Ending.returned (Value.int IntKind.i64 i_1) ∧ br (decide (min (max i_1 (0 : Int)) (512 : Int) = (0 : Int))) (inR IntKind.i64
 (Prod.snd s + (1 : Int)) ∧ next_1 ((Prod.fst (Prod.fst s), Prod.fst (Prod.snd (Prod.fst s)), Prod.snd (Prod.snd (Prod.fst s))), Prod.snd s + (1 : Int)) w') (LoopP (fun (s_1 : Option Addr × Nat × Nat)
 (w' : World) (next : Option Addr × Nat × Nat → World → Prop) ↦ br (decide ((↑(Prod.fst (Prod.snd s_1)) : Int) ≤ i)) (∃ (e : TypeId), ∃ (l : List Value), BuildS Tryz.prog 94 1 [(0, Value.agg
 (List.toArray (bigL Tryz.prog 117 [])))] e l ∧ ∀ b w1, New w' (Obj.cells (List.toArray l) e) b w1 → ∃ a n m w1_1, App Tryz.prog #[94, 94] 94 w1 (Value.slice (Prod.fst s_1) (Prod.fst
 (Prod.snd s_1)) (Prod.snd (Prod.snd s_1))) (Value.slice (some (Addr.mk b 0 none)) 1 1) (Value.slice a n m) w1_1 ∧ next (a, n, m) w1_1) (onP (Prod.fst s_1) fun a ↦ ((0 : Int) ≤ i ∧ i < (↑(Prod.fst
 (Prod.snd s_1)) : Int)) ∧ ((0 : Int) ≤ min (max i_1 (0 : Int)) (512 : Int) ∧ min (max i_1 (0 : Int)) (512 : Int) ≤ (↑(512 : Nat) : Int)) ∧ onP f fun a_4 ↦ ∃ a_5 l c, Ld Tryz.prog 94
 (World.drew w') a_4 (Value.slice a_5 l c) ∧ onP a_5 fun a_6 ↦ ((0 : Int) ≤ i ∧ i < (↑l : Int)) ∧ ∃ n w1, Cpy Tryz.prog #[111, 111] 3 (World.drew w') (Value.slice (some (Addr.add a (Int.toNat
 i * 512))) (Int.toNat (min (max i_1 (0 : Int)) (512 : Int))) 512) (Value.slice (some (Addr.add a_6 (Int.toNat i * 512))) 512 512) (Value.int IntKind.i64 n) w1 ∧ inR IntKind.i64 (Prod.snd s + (1 :
 Int)) ∧ next_1 ((Prod.fst s_1, Prod.fst (Prod.snd s_1), Prod.snd (Prod.snd s_1)), Prod.snd s + (1 : Int)) w1)) (Prod.fst (Prod.fst s), Prod.fst (Prod.snd (Prod.fst s)), Prod.snd (Prod.snd (Prod.fst
 s))) w')) (CallV Tryz.prog 58 [Value.slice (Prod.fst (Prod.fst s)) (Prod.fst (Prod.snd (Prod.fst s))) (Prod.snd (Prod.snd (Prod.fst s)))] w' fun e w' ↦ ∃ a l c, e = Ending.returned
 (Value.slice a l c) ∧ ∀ b w1, New w' (Obj.map #[] 0) b w1 → ∀ b_1 w1_1, New w1 (Obj.cells #[Value.slice a l c, Value.slice (Prod.fst (Prod.fst s)) (Prod.fst (Prod.snd (Prod.fst s))) (Prod.snd
 (Prod.snd (Prod.fst s))), Value.map (some b)] 97) b_1 w1_1 → R (Ending.returned (Value.pointer (some (Addr.mk b_1 0 none)))) w1_1)) ((a, l, c), (0 : Int)) w'
theorem found.eq (f : Option Addr) (next : Value) (w : World) (R : Ending → World → Prop) : bodyV Tryz.prog found.an Tryz.f32 [.pointer f, next] w R = found.vc f next w R := by kernel_rfl
theorem found.ok (f : Option Addr) (next : Value) (w : World) (R : Ending → World → Prop) (h : found.vc f next w R) : Calls Tryz.prog 32 #[.pointer f, next] w R :=
  calls_of_bodyV noNum (an := found.an) (args := [.pointer f, next]) Tryz.func32 (by kernel_rfl) ((found.eq f next w R).mpr h)

/-- incunable/incunablelaw12.FramesFlush -/
def framesFlush.an : An := { wraps := [], loops := [], joins := [(2, [(25, .inr 0)]), (12, [(70, .inr 0)]), (15, [(90, .inr 0)])], ranges := [] }
def framesFlush.vc (many : Int) (scripta : Option Addr) (scriptn : Nat) (scriptc : Nat) (picksa : Option Addr) (picksn : Nat) (picksc : Nat) (w : World) (R : Ending → World → Prop) : Prop := JoinP (fun s w' ↦ br s (CallV Tryz.prog 5 [] w' fun e w' ↦ ∃ b, e = Ending.returned (Value.bool b) ∧ R (Ending.returned (Value.bool b)) w') (CallV Tryz.prog 6 [Value.int IntKind.i64
 many] w' fun e w' ↦ ∃ p, e = Ending.returned (Value.pointer p) ∧ ∃ b, Eqv Tryz.prog BinOp.eql 26 (Operand.tmp 29) (Operand.const (Value.pointer none)) w' (Value.pointer p) (Value.pointer
 none) b ∧ br b (R (Ending.returned (Value.bool false)) w') (CallV Tryz.prog 8 [Value.int IntKind.i64 12, Value.int IntKind.i64 many] w' fun e w' ↦ ∃ a l c a_1 l_1 c_1 i, e = Ending.returned
 (Value.agg #[Value.slice a l c, Value.slice a_1 l_1 c_1, Value.int IntKind.i64 i]) ∧ CallV Tryz.prog 7 [Value.pointer p, Value.agg #[Value.slice a l c, Value.slice a_1 l_1 c_1, Value.int
 IntKind.i64 i], Value.slice scripta scriptn scriptc] w' fun e w' ↦ ∃ a l c a_2 l_2 c_2 i b, e = Ending.returned (Value.tuple #[Value.agg #[Value.slice a l c, Value.slice a_2 l_2 c_2, Value.int
 IntKind.i64 i], Value.bool b]) ∧ ∀ b_1 w1, New w' (Obj.cells #[Value.slice none 0 0, Value.slice none 0 0, Value.int IntKind.i64 0] 30) b_1 w1 → ∃ w1_1, St Tryz.prog 30 w1 (Addr.mk b_1 0
 none) (Value.agg #[Value.slice a l c, Value.slice a_2 l_2 c_2, Value.int IntKind.i64 i]) w1_1 ∧ br (!b) (R (Ending.returned (Value.bool false)) w1_1) (onP p fun a ↦ ∃ p_1, Ld Tryz.prog 36
 w1_1 (Addr.add a 1) (Value.pointer p_1) ∧ CallV Tryz.prog 9 [Value.pointer p_1] w1_1 fun e w' ↦ ∃ i, e = Ending.returned (Value.int IntKind.i64 i) ∧ br (!decide (i = (0 : Int))) (CallV
 Tryz.prog 5 [] w' fun e w' ↦ ∃ b, e = Ending.returned (Value.bool b) ∧ br b (onP p fun a ↦ ∃ p, Ld Tryz.prog 36 w' (Addr.add a 1) (Value.pointer p) ∧ CallV Tryz.prog 9
 [Value.pointer p] w' fun e w' ↦ ∃ i, e = Ending.returned (Value.int IntKind.i64 i) ∧ R (Ending.returned (Value.bool (decide (i = (120 : Int))))) w') (R (Ending.returned (Value.bool false)) w')) (JoinP
 (fun s w' ↦ br s (R (Ending.returned (Value.bool false)) w') (onP p fun a ↦ ∃ p_2, Ld Tryz.prog 35 w' a (Value.pointer p_2) ∧ CallV Tryz.prog 12 [Value.pointer p_2, Value.int
 IntKind.i64 0, Value.slice picksa picksn picksc] w' fun e w' ↦ ∃ p_3, e = Ending.returned (Value.pointer p_3) ∧ onP p fun a ↦ ∃ w1, St Tryz.prog 35 w' a (Value.pointer p_3) w1 ∧ JoinP (fun s
 w' ↦ br s (R (Ending.returned (Value.bool false)) w') (∃ a n m w1, MkS Tryz.prog 23 w' (Value.int IntKind.i64 12) (Value.int IntKind.i64 12) (Value.slice a n m) w1 ∧ ∃ w1_2, St
 Tryz.prog 23 w1 (Addr.mk b_1 1 none) (Value.slice a n m) w1_2 ∧ CallV Tryz.prog 5 [] w1_2 fun e w' ↦ ∃ b, e = Ending.returned (Value.bool b) ∧ br b (∃ a l c a_4 l_3 c_3 i, Ld
 Tryz.prog 30 w' (Addr.mk b_1 0 none) (Value.agg #[Value.slice a l c, Value.slice a_4 l_3 c_3, Value.int IntKind.i64 i]) ∧ CallV Tryz.prog 14 [Value.pointer p, Value.agg #[Value.slice
 a l c, Value.slice a_4 l_3 c_3, Value.int IntKind.i64 i]] w' fun e w' ↦ ∃ b, e = Ending.returned (Value.bool b) ∧ R (Ending.returned (Value.bool b)) w') (R (Ending.returned (Value.bool false)) w')))
 fun (J : Bool → World → Prop) ↦ onP p fun a ↦ ∃ p_4, Ld Tryz.prog 35 w1 a (Value.pointer p_4) ∧ ∃ b, Eqv Tryz.prog BinOp.eql 35 (Operand.tmp 83) (Operand.const (Value.pointer none))
 w1 (Value.pointer p_4) (Value.pointer none) b ∧ br b (J true w1) (CallV Tryz.prog 13 [Value.pointer p, Value.int IntKind.i64 many] w1 fun e w' ↦ ∃ p, e = Ending.returned (Value.pointer p) ∧ ∃
 b, Eqv Tryz.prog BinOp.eql 26 (Operand.tmp 88) (Operand.const (Value.pointer none)) w' (Value.pointer p) (Value.pointer none) b ∧ J b w'))) fun (J : Bool → World → Prop) ↦ onP p fun a ↦ ∃
 p_2, Ld Tryz.prog 35 w' a (Value.pointer p_2) ∧ CallV Tryz.prog 10 [Value.pointer p_2] w' fun e w' ↦ ∃ i, e = Ending.returned (Value.int IntKind.i64 i) ∧ br (!decide (i = (0 : Int)))
 (J true w') (onP p fun a ↦ ∃ p, Ld Tryz.prog 36 w' (Addr.add a 1) (Value.pointer p) ∧ CallV Tryz.prog 11 [Value.pointer p] w' fun e w' ↦ ∃ a l c, e = Ending.returned (Value.slice a l
 c) ∧ J (decide ((0 : Int) < (↑l : Int))) w')))))) fun (J : Bool → World → Prop) ↦ br (decide (many < (4 : Int))) (J true w) (br (decide ((64 : Int) < many)) (J true w) (CallV Tryz.prog 4
 [Value.slice scripta scriptn scriptc] w fun e w' ↦ ∃ b, e = Ending.returned (Value.bool b) ∧ br (!b) (J true w') (J (decide ((200 : Int) < (↑picksn : Int))) w')))
theorem framesFlush.eq (many : Int) (scripta : Option Addr) (scriptn : Nat) (scriptc : Nat) (picksa : Option Addr) (picksn : Nat) (picksc : Nat) (w : World) (R : Ending → World → Prop) : bodyV Tryz.prog framesFlush.an Tryz.f3 [.int .i64 many, .slice scripta scriptn scriptc, .slice picksa picksn picksc] w R = framesFlush.vc many scripta scriptn scriptc picksa picksn picksc w R := by kernel_rfl
theorem framesFlush.ok (many : Int) (scripta : Option Addr) (scriptn : Nat) (scriptc : Nat) (picksa : Option Addr) (picksn : Nat) (picksc : Nat) (w : World) (R : Ending → World → Prop) (h : framesFlush.vc many scripta scriptn scriptc picksa picksn picksc w R) : Calls Tryz.prog 3 #[.int .i64 many, .slice scripta scriptn scriptc, .slice picksa picksn picksc] w R :=
  calls_of_bodyV noNum (an := framesFlush.an) (args := [.int .i64 many, .slice scripta scriptn scriptc, .slice picksa picksn picksc]) Tryz.func3 (by kernel_rfl) ((framesFlush.eq many scripta scriptn scriptc picksa picksn picksc w R).mpr h)


end Go.Proofs.YtiagjabdfppgkaaGreat
