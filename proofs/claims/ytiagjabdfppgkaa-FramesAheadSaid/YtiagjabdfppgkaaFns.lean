/- Of each function the statement that the calculus reckons, printed by a program, and that it is that statement. -/
import Derived.Test.YtiagjabdfppgkaaFnsA
import Derived.Test.YtiagjabdfppgkaaChecked
set_option linter.unusedVariables false
set_option maxRecDepth 100000
namespace Go.Proofs.Ytiagjabdfppgkaa
open Go Go.Vc

/-- incunable/incunableref12.Do -/
def qdo.an : An := { wraps := [], loops := [], joins := [], ranges := [] }
def qdo.vc (p_Pagesa : Option Addr) (p_Pagesn : Nat) (p_Pagesc : Nat) (p_Pinsa : Option Addr) (p_Pinsn : Nat) (p_Pinsc : Nat) (p_Many : Int) (o_Kind : Int) (o_N : Int) (o_Changed : Bool) (o_O_Kind : Int) (o_O_Slot : Int) (o_O_N : Int) (o_O_S : ByteArray) (o_S : ByteArray) (o_Stamp : Int) (w : World) (R : Ending → World → Prop) : Prop := ∀ b w1, New w (Obj.cells #[Value.slice p_Pagesa p_Pagesn p_Pagesc, Value.slice p_Pinsa p_Pinsn p_Pinsc, Value.int IntKind.i64 p_Many] 46) b w1 → ∀ b_1 w1_1, New w1 (Obj.cells #[Value.int IntKind.i64
 o_Kind, Value.int IntKind.i64 o_N, Value.bool o_Changed, Value.int IntKind.i64 o_O_Kind, Value.int IntKind.i64 o_O_Slot, Value.int IntKind.i64 o_O_N, Value.string o_O_S, Value.string o_S, Value.int
 IntKind.i64 o_Stamp] 30) b_1 w1_1 → ∀ b_2 w1, New w1_1 (Obj.cells #[Value.slice none 0 0, Value.slice none 0 0, Value.int IntKind.i64 0] 46) b_2 w1 → ∃ i, Ld Try.prog 3 w1 (Addr.mk b_1 0
 none) (Value.int IntKind.i64 i) ∧ br (decide (i < (0 : Int))) (∃ a l c a_1 l_1 c_1 i, Ld Try.prog 46 w1 (Addr.mk b 0 none) (Value.agg #[Value.slice a l c, Value.slice a_1 l_1 c_1, Value.int
 IntKind.i64 i]) ∧ ∃ w1_2, St Try.prog 46 w1 (Addr.mk b_2 0 none) (Value.agg #[Value.slice a l c, Value.slice a_1 l_1 c_1, Value.int IntKind.i64 i]) w1_2 ∧ ∃ a l c a_2 l_2 c_2 i, Ld
 Try.prog 46 w1_2 (Addr.mk b_2 0 none) (Value.agg #[Value.slice a l c, Value.slice a_2 l_2 c_2, Value.int IntKind.i64 i]) ∧ R (Ending.returned (Value.tuple #[Value.agg #[Value.slice a l c,
 Value.slice a_2 l_2 c_2, Value.int IntKind.i64 i], Value.int IntKind.i64 0])) w1_2) (∃ i, Ld Try.prog 3 w1 (Addr.mk b_1 0 none) (Value.int IntKind.i64 i) ∧ br (decide ((4 : Int) < i)) (∃ a l
 c a_1 l_1 c_1 i, Ld Try.prog 46 w1 (Addr.mk b 0 none) (Value.agg #[Value.slice a l c, Value.slice a_1 l_1 c_1, Value.int IntKind.i64 i]) ∧ ∃ w1_2, St Try.prog 46 w1 (Addr.mk b_2 0
 none) (Value.agg #[Value.slice a l c, Value.slice a_1 l_1 c_1, Value.int IntKind.i64 i]) w1_2 ∧ ∃ a l c a_2 l_2 c_2 i, Ld Try.prog 46 w1_2 (Addr.mk b_2 0 none) (Value.agg #[Value.slice a l
 c, Value.slice a_2 l_2 c_2, Value.int IntKind.i64 i]) ∧ R (Ending.returned (Value.tuple #[Value.agg #[Value.slice a l c, Value.slice a_2 l_2 c_2, Value.int IntKind.i64 i], Value.int IntKind.i64 0]))
 w1_2) (∃ i, Ld Try.prog 3 w1 (Addr.mk b_1 0 none) (Value.int IntKind.i64 i) ∧ br (decide (i = (3 : Int))) (∃ a l c a_1 l_1 c_1 i, Ld Try.prog 46 w1 (Addr.mk b 0 none) (Value.agg
 #[Value.slice a l c, Value.slice a_1 l_1 c_1, Value.int IntKind.i64 i]) ∧ CallV Try.prog 35 [Value.agg #[Value.slice a l c, Value.slice a_1 l_1 c_1, Value.int IntKind.i64 i]] w1 fun e w' ↦ ∃
 i, e = Ending.returned (Value.int IntKind.i64 i) ∧ br (decide ((0 : Int) < i)) (∃ a l c a_2 l_2 c_2 i, Ld Try.prog 46 w' (Addr.mk b 0 none) (Value.agg #[Value.slice a l c, Value.slice a_2
 l_2 c_2, Value.int IntKind.i64 i]) ∧ ∃ w1, St Try.prog 46 w' (Addr.mk b_2 0 none) (Value.agg #[Value.slice a l c, Value.slice a_2 l_2 c_2, Value.int IntKind.i64 i]) w1 ∧ ∃ a l c a_3 l_3 c_3
 i, Ld Try.prog 46 w1 (Addr.mk b_2 0 none) (Value.agg #[Value.slice a l c, Value.slice a_3 l_3 c_3, Value.int IntKind.i64 i]) ∧ R (Ending.returned (Value.tuple #[Value.agg #[Value.slice a l
 c, Value.slice a_3 l_3 c_3, Value.int IntKind.i64 i], Value.int IntKind.i64 120])) w1) (∃ a l c a_2 l_2 c_2 i, Ld Try.prog 46 w' (Addr.mk b 0 none) (Value.agg #[Value.slice a l c,
 Value.slice a_2 l_2 c_2, Value.int IntKind.i64 i]) ∧ ∃ w1, St Try.prog 46 w' (Addr.mk b_2 0 none) (Value.agg #[Value.slice a l c, Value.slice a_2 l_2 c_2, Value.int IntKind.i64 i]) w1 ∧ ∃ a
 l c a_3 l_3 c_3 i, Ld Try.prog 46 w1 (Addr.mk b_2 0 none) (Value.agg #[Value.slice a l c, Value.slice a_3 l_3 c_3, Value.int IntKind.i64 i]) ∧ R (Ending.returned (Value.tuple #[Value.agg
 #[Value.slice a l c, Value.slice a_3 l_3 c_3, Value.int IntKind.i64 i], Value.int IntKind.i64 0])) w1)) (∃ a l c a_1 l_1 c_1 i, Ld Try.prog 46 w1 (Addr.mk b 0 none) (Value.agg #[Value.slice
 a l c, Value.slice a_1 l_1 c_1, Value.int IntKind.i64 i]) ∧ ∃ i_1, Ld Try.prog 3 w1 (Addr.mk b_1 1 none) (Value.int IntKind.i64 i_1) ∧ CallV Try.prog 36 [Value.agg #[Value.slice a
 l c, Value.slice a_1 l_1 c_1, Value.int IntKind.i64 i], Value.int IntKind.i64 i_1] w1 fun e w' ↦ ∃ b_3, e = Ending.returned (Value.bool b_3) ∧ br (!b_3) (∃ i, Ld Try.prog 3 w' (Addr.mk b_1 0
 none) (Value.int IntKind.i64 i) ∧ br (decide (i = (1 : Int))) (∃ a l c a_2 l_2 c_2 i, Ld Try.prog 46 w' (Addr.mk b 0 none) (Value.agg #[Value.slice a l c, Value.slice a_2 l_2 c_2, Value.int
 IntKind.i64 i]) ∧ ∃ w1, St Try.prog 46 w' (Addr.mk b_2 0 none) (Value.agg #[Value.slice a l c, Value.slice a_2 l_2 c_2, Value.int IntKind.i64 i]) w1 ∧ ∃ a l c a_3 l_3 c_3 i, Ld
 Try.prog 46 w1 (Addr.mk b_2 0 none) (Value.agg #[Value.slice a l c, Value.slice a_3 l_3 c_3, Value.int IntKind.i64 i]) ∧ R (Ending.returned (Value.tuple #[Value.agg #[Value.slice a l c,
 Value.slice a_3 l_3 c_3, Value.int IntKind.i64 i], Value.int IntKind.i64 1])) w1) (∃ i, Ld Try.prog 3 w' (Addr.mk b_1 0 none) (Value.int IntKind.i64 i) ∧ br (decide (i = (2 : Int))) (∃ a l c
 a_2 l_2 c_2 i, Ld Try.prog 46 w' (Addr.mk b 0 none) (Value.agg #[Value.slice a l c, Value.slice a_2 l_2 c_2, Value.int IntKind.i64 i]) ∧ ∃ w1, St Try.prog 46 w' (Addr.mk b_2 0
 none) (Value.agg #[Value.slice a l c, Value.slice a_2 l_2 c_2, Value.int IntKind.i64 i]) w1 ∧ ∃ a l c a_3 l_3 c_3 i, Ld Try.prog 46 w1 (Addr.mk b_2 0 none) (Value.agg #[Value.slice a l c,
 Value.slice a_3 l_3 c_3, Value.int IntKind.i64 i]) ∧ R (Ending.returned (Value.tuple #[Value.agg #[Value.slice a l c, Value.slice a_3 l_3 c_3, Value.int IntKind.i64 i], Value.int IntKind.i64 1])) w1)
 (∃ a l c a_2 l_2 c_2 i, Ld Try.prog 46 w' (Addr.mk b 0 none) (Value.agg #[Value.slice a l c, Value.slice a_2 l_2 c_2, Value.int IntKind.i64 i]) ∧ ∃ w1, St Try.prog 46 w' (Addr.mk
 b_2 0 none) (Value.agg #[Value.slice a l c, Value.slice a_2 l_2 c_2, Value.int IntKind.i64 i]) w1 ∧ ∃ a l c a_3 l_3 c_3 i, Ld Try.prog 46 w1 (Addr.mk b_2 0 none) (Value.agg #[Value.slice a l
 c, Value.slice a_3 l_3 c_3, Value.int IntKind.i64 i]) ∧ R (Ending.returned (Value.tuple #[Value.agg #[Value.slice a l c, Value.slice a_3 l_3 c_3, Value.int IntKind.i64 i], Value.int IntKind.i64 121]))
 w1))) (∃ i, Ld Try.prog 3 w' (Addr.mk b_1 0 none) (Value.int IntKind.i64 i) ∧ br (decide (i = (0 : Int))) (∃ a l c, Ld Try.prog 34 (World.drew w') (Addr.mk b 1 none) (Value.slice a
 l c) ∧ ∃ i, Ld Try.prog 3 (World.drew w') (Addr.mk b_1 1 none) (Value.int IntKind.i64 i) ∧ onP a fun a ↦ ((0 : Int) ≤ i ∧ i < (↑l : Int)) ∧ ∃ i_2, Ld Try.prog 3 (World.drew w')
 (Addr.add a (Int.toNat i * 1)) (Value.int IntKind.i64 i_2) ∧ br (decide (i_2 = (0 : Int))) (∃ a l c a_2 l_2 c_2 i, Ld Try.prog 46 (World.drew w') (Addr.mk b 0 none) (Value.agg #[Value.slice
 a l c, Value.slice a_2 l_2 c_2, Value.int IntKind.i64 i]) ∧ ∃ i_3, Ld Try.prog 3 (World.drew w') (Addr.mk b 2 none) (Value.int IntKind.i64 i_3) ∧ CallV Try.prog 35 [Value.agg
 #[Value.slice a l c, Value.slice a_2 l_2 c_2, Value.int IntKind.i64 i]] (World.drew w') fun e w' ↦ ∃ i, e = Ending.returned (Value.int IntKind.i64 i) ∧ Ld Try.prog 3 w' (Addr.mk b 2 none)
 (Value.int IntKind.i64 i_3) ∧ br (decide (i_3 ≤ i)) (∃ a l c a_3 l_3 c_3 i, Ld Try.prog 46 w' (Addr.mk b 0 none) (Value.agg #[Value.slice a l c, Value.slice a_3 l_3 c_3, Value.int
 IntKind.i64 i]) ∧ ∃ w1, St Try.prog 46 w' (Addr.mk b_2 0 none) (Value.agg #[Value.slice a l c, Value.slice a_3 l_3 c_3, Value.int IntKind.i64 i]) w1 ∧ ∃ a l c a_4 l_4 c_4 i, Ld
 Try.prog 46 w1 (Addr.mk b_2 0 none) (Value.agg #[Value.slice a l c, Value.slice a_4 l_4 c_4, Value.int IntKind.i64 i]) ∧ R (Ending.returned (Value.tuple #[Value.agg #[Value.slice a l c,
 Value.slice a_4 l_4 c_4, Value.int IntKind.i64 i], Value.int IntKind.i64 120])) w1) (∃ a l c a_3 l_3 c_3 i, Ld Try.prog 46 w' (Addr.mk b 0 none) (Value.agg #[Value.slice a l c, Value.slice
 a_3 l_3 c_3, Value.int IntKind.i64 i]) ∧ ∃ i_4, Ld Try.prog 3 w' (Addr.mk b_1 1 none) (Value.int IntKind.i64 i_4) ∧ CallV Try.prog 37 [Value.agg #[Value.slice a l c, Value.slice
 a_3 l_3 c_3, Value.int IntKind.i64 i], Value.int IntKind.i64 i_4, Value.int IntKind.i64 1] w' fun e w' ↦ ∃ a l c a_4 l_4 c_4 i, e = Ending.returned (Value.agg #[Value.slice a l c, Value.slice a_4 l_4
 c_4, Value.int IntKind.i64 i]) ∧ ∃ w1, St Try.prog 46 w' (Addr.mk b_2 0 none) (Value.agg #[Value.slice a l c, Value.slice a_4 l_4 c_4, Value.int IntKind.i64 i]) w1 ∧ ∃ a l c a_5 l_5 c_5 i,
 Ld Try.prog 46 w1 (Addr.mk b_2 0 none) (Value.agg #[Value.slice a l c, Value.slice a_5 l_5 c_5, Value.int IntKind.i64 i]) ∧ R (Ending.returned (Value.tuple #[Value.agg #[Value.slice a l c,
 Value.slice a_5 l_5 c_5, Value.int IntKind.i64 i], Value.int IntKind.i64 0])) w1)) (∃ a l c a_2 l_2 c_2 i, Ld Try.prog 46 (World.drew w') (Addr.mk b 0 none) (Value.agg #[Value.slice a l c,
 Value.slice a_2 l_2 c_2, Value.int IntKind.i64 i]) ∧ ∃ i_3, Ld Try.prog 3 (World.drew w') (Addr.mk b_1 1 none) (Value.int IntKind.i64 i_3) ∧ CallV Try.prog 37 [Value.agg
 #[Value.slice a l c, Value.slice a_2 l_2 c_2, Value.int IntKind.i64 i], Value.int IntKind.i64 i_3, Value.int IntKind.i64 1] (World.drew w') fun e w' ↦ ∃ a l c a_3 l_3 c_3 i, e = Ending.returned
 (Value.agg #[Value.slice a l c, Value.slice a_3 l_3 c_3, Value.int IntKind.i64 i]) ∧ ∃ w1, St Try.prog 46 w' (Addr.mk b_2 0 none) (Value.agg #[Value.slice a l c, Value.slice a_3 l_3 c_3,
 Value.int IntKind.i64 i]) w1 ∧ ∃ a l c a_4 l_4 c_4 i, Ld Try.prog 46 w1 (Addr.mk b_2 0 none) (Value.agg #[Value.slice a l c, Value.slice a_4 l_4 c_4, Value.int IntKind.i64 i]) ∧ R
 (Ending.returned (Value.tuple #[Value.agg #[Value.slice a l c, Value.slice a_4 l_4 c_4, Value.int IntKind.i64 i], Value.int IntKind.i64 0])) w1)) (br (decide (i = (1 : Int))) (∃ a l c, Ld
 Try.prog 34 w' (Addr.mk b 1 none) (Value.slice a l c) ∧ ∃ i, Ld Try.prog 3 w' (Addr.mk b_1 1 none) (Value.int IntKind.i64 i) ∧ onP a fun a ↦ ((0 : Int) ≤ i ∧ i < (↑l : Int)) ∧ ∃
 i_2, Ld Try.prog 3 w' (Addr.add a (Int.toNat i * 1)) (Value.int IntKind.i64 i_2) ∧ br (decide (i_2 = (0 : Int))) (∃ a l c a_2 l_2 c_2 i, Ld Try.prog 46 w' (Addr.mk b 0 none)
 (Value.agg #[Value.slice a l c, Value.slice a_2 l_2 c_2, Value.int IntKind.i64 i]) ∧ ∃ w1, St Try.prog 46 w' (Addr.mk b_2 0 none) (Value.agg #[Value.slice a l c, Value.slice a_2 l_2 c_2,
 Value.int IntKind.i64 i]) w1 ∧ ∃ a l c a_3 l_3 c_3 i, Ld Try.prog 46 w1 (Addr.mk b_2 0 none) (Value.agg #[Value.slice a l c, Value.slice a_3 l_3 c_3, Value.int IntKind.i64 i]) ∧ R
 (Ending.returned (Value.tuple #[Value.agg #[Value.slice a l c, Value.slice a_3 l_3 c_3, Value.int IntKind.i64 i], Value.int IntKind.i64 1])) w1) (∃ a l c a_2 l_2 c_2 i, Ld Try.prog 46 w'
 (Addr.mk b 0 none) (Value.agg #[Value.slice a l c, Value.slice a_2 l_2 c_2, Value.int IntKind.i64 i]) ∧ ∃ i_3, Ld Try.prog 3 w' (Addr.mk b_1 1 none) (Value.int IntKind.i64 i_3) ∧ CallV
 Try.prog 37 [Value.agg #[Value.slice a l c, Value.slice a_2 l_2 c_2, Value.int IntKind.i64 i], Value.int IntKind.i64 i_3, Value.int IntKind.i64 (-1 : Int)] w' fun e w' ↦ ∃ a l c a_3 l_3 c_3
 i, e = Ending.returned (Value.agg #[Value.slice a l c, Value.slice a_3 l_3 c_3, Value.int IntKind.i64 i]) ∧ ∃ w1, St Try.prog 46 w' (Addr.mk b_2 0 none) (Value.agg #[Value.slice a l c,
 Value.slice a_3 l_3 c_3, Value.int IntKind.i64 i]) w1 ∧ ∃ a l c a_4 l_4 c_4 i, Ld Try.prog 46 w1 (Addr.mk b_2 0 none) (Value.agg #[Value.slice a l c, Value.slice a_4 l_4 c_4, Value.int
 IntKind.i64 i]) ∧ R (Ending.returned (Value.tuple #[Value.agg #[Value.slice a l c, Value.slice a_4 l_4 c_4, Value.int IntKind.i64 i], Value.int IntKind.i64 0])) w1)) (br (decide (i = (2 : Int))) (∃ a
 l c, Ld Try.prog 34 w' (Addr.mk b 1 none) (Value.slice a l c) ∧ ∃ i, Ld Try.prog 3 w' (Addr.mk b_1 1 none) (Value.int IntKind.i64 i) ∧ onP a fun a ↦ ((0 : Int) ≤ i ∧ i < (↑l :
 Int)) ∧ ∃ i_2, Ld Try.prog 3 w' (Addr.add a (Int.toNat i * 1)) (Value.int IntKind.i64 i_2) ∧ br (decide (i_2 = (0 : Int))) (∃ a l c a_2 l_2 c_2 i, Ld Try.prog 46 w' (Addr.mk b 0
 none) (Value.agg #[Value.slice a l c, Value.slice a_2 l_2 c_2, Value.int IntKind.i64 i]) ∧ ∃ w1, St Try.prog 46 w' (Addr.mk b_2 0 none) (Value.agg #[Value.slice a l c, Value.slice a_2 l_2
 c_2, Value.int IntKind.i64 i]) w1 ∧ ∃ a l c a_3 l_3 c_3 i, Ld Try.prog 46 w1 (Addr.mk b_2 0 none) (Value.agg #[Value.slice a l c, Value.slice a_3 l_3 c_3, Value.int IntKind.i64 i]) ∧ R
 (Ending.returned (Value.tuple #[Value.agg #[Value.slice a l c, Value.slice a_3 l_3 c_3, Value.int IntKind.i64 i], Value.int IntKind.i64 1])) w1) ((∃ a l c, Ld Try.prog 44 (World.drew w')
 (Addr.mk b 0 none) (Value.slice a l c) ∧ ∃ i, Ld Try.prog 3 (World.drew w') (Addr.mk b_1 1 none) (Value.int IntKind.i64 i) ∧ onP a fun a ↦ ((0 : Int) ≤ i ∧ i < (↑l : Int)) ∧ ∃ a_2 l c i_3,
 Ld Try.prog 83 (World.drew w') (Addr.add a (Int.toNat i * 2)) (Value.agg #[Value.slice a_2 l c, Value.int IntKind.i64 i_3]) ∧ ∃ i i_4 i_5 s, Ld Try.prog 28 (World.drew w') (Addr.mk
 b_1 3 none) (Value.agg #[Value.int IntKind.i64 i, Value.int IntKind.i64 i_4, Value.int IntKind.i64 i_5, Value.string s]) ∧ CallV Try.prog 38 [Value.agg #[Value.slice a_2 l c, Value.int
 IntKind.i64 i_3], Value.agg #[Value.int IntKind.i64 i, Value.int IntKind.i64 i_4, Value.int IntKind.i64 i_5, Value.string s]] (World.drew w') fun e w' ↦ ∃ a l c i i_6 i_7, e = Ending.returned
 (Value.tuple #[Value.agg #[Value.slice a l c, Value.int IntKind.i64 i], Value.int IntKind.i64 i_6, Value.int IntKind.i64 i_7]) ∧ ∀ b_4 w1, New w' (Obj.cells #[Value.slice none 0 0, Value.int
 IntKind.i64 0] 83) b_4 w1 → ∃ w1_2, St Try.prog 83 w1 (Addr.mk b_4 0 none) (Value.agg #[Value.slice a l c, Value.int IntKind.i64 i]) w1_2 ∧ ∃ a l c a_4 l_2 c_2 i, Ld Try.prog 46
 w1_2 (Addr.mk b 0 none) (Value.agg #[Value.slice a l c, Value.slice a_4 l_2 c_2, Value.int IntKind.i64 i]) ∧ ∃ i_8, Ld Try.prog 3 w1_2 (Addr.mk b_1 1 none) (Value.int IntKind.i64 i_8) ∧ ∃
 a_5 l_3 c_3 i_9, Ld Try.prog 83 w1_2 (Addr.mk b_4 0 none) (Value.agg #[Value.slice a_5 l_3 c_3, Value.int IntKind.i64 i_9]) ∧ CallV Try.prog 39 [Value.agg #[Value.slice a l c,
 Value.slice a_4 l_2 c_2, Value.int IntKind.i64 i], Value.int IntKind.i64 i_8, Value.agg #[Value.slice a_5 l_3 c_3, Value.int IntKind.i64 i_9]] w1_2 fun (e : Ending) (w' : World) ↦ ∃ (a : Option Addr),
 ∃ l c, ∃ (a_6 : Option Addr), ∃ (l_4 : Nat), ∃ (c_4 : Nat), ∃ (i : Int), e = Ending.returned (Value.agg #[Value.slice a l c, Value.slice a_6 l_4 c_4, Value.int IntKind.i64 i]) ∧ ∃ (w1 : World), St
 Try.prog 46 w' (Addr.mk b_2 0 none) (Value.agg #[Value.slice a l c, Value.slice a_6 l_4 c_4, Value.int IntKind.i64 i]) w1 ∧ ∃ (a : Option Addr), ∃ (l : Nat), ∃ (c : Nat), ∃ (a_7 : Option
 Addr), ∃ (l_5 : Nat), ∃ (c_5 : Nat), ∃ (i : Int), Ld Try.prog 46 w1 (Addr.mk b_2 0 none) (Value.agg #[Value.slice a l c, Value.slice a_7 l_5 c_5, Value.int IntKind.i64 i]) ∧ R
 (Ending.returned (Value.tuple #[Value.agg #[Value.slice a l c, Value.slice a_7 l_5 c_5, Value.int IntKind.i64 i], Value.int IntKind.i64 i_7])) w1) ∧ ∃ a l c, Ld Try.prog 44 (World.drew w')
 (Addr.mk b 0 none) (Value.slice a l c) ∧ ∃ i, Ld Try.prog 3 (World.drew w') (Addr.mk b_1 1 none) (Value.int IntKind.i64 i) ∧ onP a fun a_2 ↦ ((0 : Int) ≤ i ∧ i < (↑l : Int)) ∧ ∃ a_3 l_2 c_2
 i_3, Ld Try.prog 83 (World.drew w') (Addr.add a_2 (Int.toNat i * 2)) (Value.agg #[Value.slice a_3 l_2 c_2, Value.int IntKind.i64 i_3]) ∧ ∃ i_4 i_5 i_6 s, Ld Try.prog 28 (World.drew
 w') (Addr.mk b_1 3 none) (Value.agg #[Value.int IntKind.i64 i_4, Value.int IntKind.i64 i_5, Value.int IntKind.i64 i_6, Value.string s]) ∧ ∀ b_4 w1, New (World.drew w') (Obj.cells #[Value.slice none 0
 0, Value.int IntKind.i64 0] 83) b_4 w1 → Ld Try.prog 28 w1 (Addr.mk b_1 3 none) (Value.agg #[Value.int IntKind.i64 i_4, Value.int IntKind.i64 i_5, Value.int IntKind.i64 i_6, Value.string s])
 ∧ Ld Try.prog 83 w1 (Addr.add a_2 (Int.toNat i * 2)) (Value.agg #[Value.slice a_3 l_2 c_2, Value.int IntKind.i64 i_3]) ∧ Ld Try.prog 3 w1 (Addr.mk b_1 1 none) (Value.int
 IntKind.i64 i) ∧ Ld Try.prog 44 w1 (Addr.mk b 0 none) (Value.slice a l c) ∧ CallV Try.prog 38 [Value.agg #[Value.slice a_3 l_2 c_2, Value.int IntKind.i64 i_3], Value.agg
 #[Value.int IntKind.i64 i_4, Value.int IntKind.i64 i_5, Value.int IntKind.i64 i_6, Value.string s]] w1 fun e w' ↦ ∃ a l c i i_7 i_8, e = Ending.returned (Value.tuple #[Value.agg #[Value.slice a l c,
 Value.int IntKind.i64 i], Value.int IntKind.i64 i_7, Value.int IntKind.i64 i_8]) ∧ ∃ w1, St Try.prog 83 w' (Addr.mk b_4 0 none) (Value.agg #[Value.slice a l c, Value.int IntKind.i64 i]) w1 ∧
 ∃ a l c a_5 l_3 c_3 i, Ld Try.prog 46 w1 (Addr.mk b 0 none) (Value.agg #[Value.slice a l c, Value.slice a_5 l_3 c_3, Value.int IntKind.i64 i]) ∧ ∃ i_9, Ld Try.prog 3 w1 (Addr.mk
 b_1 1 none) (Value.int IntKind.i64 i_9) ∧ ∃ (a_6 : Option Addr), ∃ l_4 c_4, ∃ (i_10 : Int), Ld Try.prog 83 w1 (Addr.mk b_4 0 none) (Value.agg #[Value.slice a_6 l_4 c_4, Value.int IntKind.i64
 i_10]) ∧ CallV Try.prog 39 [Value.agg #[Value.slice a l c, Value.slice a_5 l_3 c_3, Value.int IntKind.i64 i], Value.int IntKind.i64 i_9, Value.agg #[Value.slice a_6 l_4 c_4, Value.int
 IntKind.i64 i_10]] w1 fun (e : Ending) (w' : World) ↦ ∃ (a : Option Addr), ∃ (l : Nat), ∃ (c : Nat), ∃ (a_7 : Option Addr), ∃ (l_5 : Nat), ∃ (c_5 : Nat), ∃ (i : Int), e = Ending.returned (Value.agg
 #[Value.slice a l c, Value.slice a_7 l_5 c_5, Value.int IntKind.i64 i]) ∧ ∃ (w1 : World), St Try.prog 46 w' (Addr.mk b_2 0 none) (Value.agg #[Value.slice a l c, Value.slice a_7 l_5 c_5,
 Value.int IntKind.i64 i]) w1 ∧ ∃ (a : Option Addr), ∃ (l : Nat), ∃ (c : Nat), ∃ (a_8 : Option Addr), ∃ (l_6 : Nat), ∃ (c_6 : Nat), ∃ (i : Int), Ld Try.prog 46 w1 (Addr.mk b_2 0 none)
 (Value.agg #[Value.slice a l c, Value.slice a_8 l_6 c_6, Value.int IntKind.i64 i]) ∧ R (Ending.returned (Value.tuple #[Value.agg #[Value.slice a l c, Value.slice a_8 l_6 c_6, Value.int IntKind.i64 i],
 Value.int IntKind.i64 i_8])) w1)) (br (decide (i = (4 : Int))) (∃ a l c, Ld Try.prog 34 (World.drew w') (Addr.mk b 1 none) (Value.slice a l c) ∧ ∃ i, Ld Try.prog 3 (World.drew w')
 (Addr.mk b_1 1 none) (Value.int IntKind.i64 i) ∧ onP a fun a ↦ ((0 : Int) ≤ i ∧ i < (↑l : Int)) ∧ ∃ i_2, Ld Try.prog 3 (World.drew w') (Addr.add a (Int.toNat i * 1)) (Value.int IntKind.i64
 i_2) ∧ br (decide ((0 : Int) < i_2)) (∃ a l c a_2 l_2 c_2 i, Ld Try.prog 46 (World.drew w') (Addr.mk b 0 none) (Value.agg #[Value.slice a l c, Value.slice a_2 l_2 c_2, Value.int IntKind.i64
 i]) ∧ ∃ w1, St Try.prog 46 (World.drew w') (Addr.mk b_2 0 none) (Value.agg #[Value.slice a l c, Value.slice a_2 l_2 c_2, Value.int IntKind.i64 i]) w1 ∧ ∃ a l c a_3 l_3 c_3 i, Ld
 Try.prog 46 w1 (Addr.mk b_2 0 none) (Value.agg #[Value.slice a l c, Value.slice a_3 l_3 c_3, Value.int IntKind.i64 i]) ∧ R (Ending.returned (Value.tuple #[Value.agg #[Value.slice a l c,
 Value.slice a_3 l_3 c_3, Value.int IntKind.i64 i], Value.int IntKind.i64 120])) w1) (∃ a l c a_2 l_2 c_2 i, Ld Try.prog 46 (World.drew w') (Addr.mk b 0 none) (Value.agg #[Value.slice a l c,
 Value.slice a_2 l_2 c_2, Value.int IntKind.i64 i]) ∧ ∃ i_3, Ld Try.prog 3 (World.drew w') (Addr.mk b 2 none) (Value.int IntKind.i64 i_3) ∧ CallV Try.prog 35 [Value.agg
 #[Value.slice a l c, Value.slice a_2 l_2 c_2, Value.int IntKind.i64 i]] (World.drew w') fun e w' ↦ ∃ i, e = Ending.returned (Value.int IntKind.i64 i) ∧ Ld Try.prog 3 w' (Addr.mk b 2 none)
 (Value.int IntKind.i64 i_3) ∧ br (decide (i_3 ≤ i)) (∃ a l c a_3 l_3 c_3 i, Ld Try.prog 46 w' (Addr.mk b 0 none) (Value.agg #[Value.slice a l c, Value.slice a_3 l_3 c_3, Value.int
 IntKind.i64 i]) ∧ ∃ w1, St Try.prog 46 w' (Addr.mk b_2 0 none) (Value.agg #[Value.slice a l c, Value.slice a_3 l_3 c_3, Value.int IntKind.i64 i]) w1 ∧ ∃ a l c a_4 l_4 c_4 i, Ld
 Try.prog 46 w1 (Addr.mk b_2 0 none) (Value.agg #[Value.slice a l c, Value.slice a_4 l_4 c_4, Value.int IntKind.i64 i]) ∧ R (Ending.returned (Value.tuple #[Value.agg #[Value.slice a l c,
 Value.slice a_4 l_4 c_4, Value.int IntKind.i64 i], Value.int IntKind.i64 120])) w1) (∃ i, Ld Try.prog 3 w' (Addr.mk b_1 8 none) (Value.int IntKind.i64 i) ∧ ∃ s, Ld Try.prog 9 w'
 (Addr.mk b_1 7 none) (Value.string s) ∧ CallV Try.prog 40 [Value.agg #[Value.slice none 0 0, Value.int IntKind.i64 i], Value.int IntKind.i64 0, Value.string s] w' fun e w' ↦ ∃ a l c i i_4, e
 = Ending.returned (Value.tuple #[Value.agg #[Value.slice a l c, Value.int IntKind.i64 i], Value.int IntKind.i64 i_4]) ∧ ∀ b_4 w1, New w' (Obj.cells #[Value.slice none 0 0, Value.int IntKind.i64 0] 83)
 b_4 w1 → ∃ w1_2, St Try.prog 83 w1 (Addr.mk b_4 0 none) (Value.agg #[Value.slice a l c, Value.int IntKind.i64 i]) w1_2 ∧ ∃ a l c a_4 l_3 c_3 i, Ld Try.prog 46 w1_2 (Addr.mk b 0
 none) (Value.agg #[Value.slice a l c, Value.slice a_4 l_3 c_3, Value.int IntKind.i64 i]) ∧ ∃ i_5, Ld Try.prog 3 w1_2 (Addr.mk b_1 1 none) (Value.int IntKind.i64 i_5) ∧ ∃ a_5 l_4 c_4 i_6, Ld
 Try.prog 83 w1_2 (Addr.mk b_4 0 none) (Value.agg #[Value.slice a_5 l_4 c_4, Value.int IntKind.i64 i_6]) ∧ CallV Try.prog 39 [Value.agg #[Value.slice a l c, Value.slice a_4 l_3 c_3,
 Value.int IntKind.i64 i], Value.int IntKind.i64 i_5, Value.agg #[Value.slice a_5 l_4 c_4, Value.int IntKind.i64 i_6]] w1_2 fun (e : Ending) (w' : World) ↦ ∃ (a : Option Addr), ∃ l c, ∃ (a_6 : Option
 Addr), ∃ (l_5 : Nat), ∃ (c_5 : Nat), ∃ (i : Int), e = Ending.returned (Value.agg #[Value.slice a l c, Value.slice a_6 l_5 c_5, Value.int IntKind.i64 i]) ∧ ∃ (w1 : World), St Try.prog 46 w'
 (Addr.mk b_2 0 none) (Value.agg #[Value.slice a l c, Value.slice a_6 l_5 c_5, Value.int IntKind.i64 i]) w1 ∧ ∃ (a : Option Addr), ∃ (l : Nat), ∃ (c : Nat), ∃ (a_7 : Option Addr), ∃ (l_6 : Nat), ∃ (c_6
 : Nat), ∃ (i : Int), Ld Try.prog 46 w1 (Addr.mk b_2 0 none) (Value.agg #[Value.slice a l c, Value.slice a_7 l_6 c_6, Value.int IntKind.i64 i]) ∧ R (Ending.returned (Value.tuple #[Value.agg
 #[Value.slice a l c, Value.slice a_7 l_6 c_6, Value.int IntKind.i64 i], Value.int IntKind.i64 0])) w1))) (∃ a l c a_2 l_2 c_2 i, Ld Try.prog 46 w' (Addr.mk b 0 none) (Value.agg #[Value.slice
 a l c, Value.slice a_2 l_2 c_2, Value.int IntKind.i64 i]) ∧ ∃ w1, St Try.prog 46 w' (Addr.mk b_2 0 none) (Value.agg #[Value.slice a l c, Value.slice a_2 l_2 c_2, Value.int IntKind.i64 i]) w1
 ∧ ∃ a l c a_3 l_3 c_3 i, Ld Try.prog 46 w1 (Addr.mk b_2 0 none) (Value.agg #[Value.slice a l c, Value.slice a_3 l_3 c_3, Value.int IntKind.i64 i]) ∧ R (Ending.returned (Value.tuple
 #[Value.agg #[Value.slice a l c, Value.slice a_3 l_3 c_3, Value.int IntKind.i64 i], Value.int IntKind.i64 0])) w1))))))))
theorem qdo.eq (p_Pagesa : Option Addr) (p_Pagesn : Nat) (p_Pagesc : Nat) (p_Pinsa : Option Addr) (p_Pinsn : Nat) (p_Pinsc : Nat) (p_Many : Int) (o_Kind : Int) (o_N : Int) (o_Changed : Bool) (o_O_Kind : Int) (o_O_Slot : Int) (o_O_N : Int) (o_O_S : ByteArray) (o_S : ByteArray) (o_Stamp : Int) (w : World) (R : Ending → World → Prop) : bodyV Try.prog qdo.an Try.f15 [.agg #[.slice p_Pagesa p_Pagesn p_Pagesc, .slice p_Pinsa p_Pinsn p_Pinsc, .int .i64 p_Many], .agg #[.int .i64 o_Kind, .int .i64 o_N, .bool o_Changed, .int .i64 o_O_Kind, .int .i64 o_O_Slot, .int .i64 o_O_N, .string o_O_S, .string o_S, .int .i64 o_Stamp]] w R = qdo.vc p_Pagesa p_Pagesn p_Pagesc p_Pinsa p_Pinsn p_Pinsc p_Many o_Kind o_N o_Changed o_O_Kind o_O_Slot o_O_N o_O_S o_S o_Stamp w R := by kernel_rfl
theorem qdo.ok (p_Pagesa : Option Addr) (p_Pagesn : Nat) (p_Pagesc : Nat) (p_Pinsa : Option Addr) (p_Pinsn : Nat) (p_Pinsc : Nat) (p_Many : Int) (o_Kind : Int) (o_N : Int) (o_Changed : Bool) (o_O_Kind : Int) (o_O_Slot : Int) (o_O_N : Int) (o_O_S : ByteArray) (o_S : ByteArray) (o_Stamp : Int) (w : World) (R : Ending → World → Prop) (h : qdo.vc p_Pagesa p_Pagesn p_Pagesc p_Pinsa p_Pinsn p_Pinsc p_Many o_Kind o_N o_Changed o_O_Kind o_O_Slot o_O_N o_O_S o_S o_Stamp w R) : Calls Try.prog 15 #[.agg #[.slice p_Pagesa p_Pagesn p_Pagesc, .slice p_Pinsa p_Pinsn p_Pinsc, .int .i64 p_Many], .agg #[.int .i64 o_Kind, .int .i64 o_N, .bool o_Changed, .int .i64 o_O_Kind, .int .i64 o_O_Slot, .int .i64 o_O_N, .string o_O_S, .string o_S, .int .i64 o_Stamp]] w R :=
  calls_of_bodyV noNum (an := qdo.an) (args := [.agg #[.slice p_Pagesa p_Pagesn p_Pagesc, .slice p_Pinsa p_Pinsn p_Pinsc, .int .i64 p_Many], .agg #[.int .i64 o_Kind, .int .i64 o_N, .bool o_Changed, .int .i64 o_O_Kind, .int .i64 o_O_Slot, .int .i64 o_O_N, .string o_O_S, .string o_S, .int .i64 o_Stamp]]) Try.func15 (by kernel_rfl) ((qdo.eq p_Pagesa p_Pagesn p_Pagesc p_Pinsa p_Pinsn p_Pinsc p_Many o_Kind o_N o_Changed o_O_Kind o_O_Slot o_O_N o_O_S o_S o_Stamp w R).mpr h)

/-- incunable/incunablelaw12.begun -/
def begun.an : An := { wraps := [], loops := [], joins := [], ranges := [] }
def begun.vc (many : Int) (w : World) (R : Ending → World → Prop) : Prop := CallV Try.prog 27 [Value.int IntKind.i64 2000] w fun e w' ↦ ∃ p, e = Ending.returned (Value.pointer p) ∧ ∀ b w1, New w' (Obj.cells #[Value.pointer p, Value.pointer none, Value.slice none 0 0,
 Value.bool false, Value.pointer none, Value.pointer none, Value.pointer none, Value.pointer none, Value.pointer none, Value.pointer none, Value.pointer none, Value.pointer none, Value.pointer none,
 Value.pointer none, Value.pointer none, Value.pointer none] 37) b w1 → ∃ p, Ld Try.prog 32 w1 (Addr.mk b 0 none) (Value.pointer p) ∧ ∃ b_1, Eqv Try.prog BinOp.eql 32 (Operand.tmp
 10) (Operand.const (Value.pointer none)) w1 (Value.pointer p) (Value.pointer none) b_1 ∧ br b_1 (R (Ending.returned (Value.pointer none)) w1) (CallV Try.prog 18 [Value.pointer (some (Addr.mk
 b 0 none)), Value.int IntKind.i64 many] w1 fun e w' ↦ ∃ p, e = Ending.returned (Value.pointer p) ∧ R (Ending.returned (Value.pointer p)) w')
theorem begun.eq (many : Int) (w : World) (R : Ending → World → Prop) : bodyV Try.prog begun.an Try.f10 [.int .i64 many] w R = begun.vc many w R := by kernel_rfl
theorem begun.ok (many : Int) (w : World) (R : Ending → World → Prop) (h : begun.vc many w R) : Calls Try.prog 10 #[.int .i64 many] w R :=
  calls_of_bodyV noNum (an := begun.an) (args := [.int .i64 many]) Try.func10 (by kernel_rfl) ((begun.eq many w R).mpr h)

/-- (*incunable/incunablelaw12.desk).open -/
def dopen.an : An := { wraps := [], loops := [], joins := [], ranges := [] }
def dopen.vc (k : Option Addr) (many : Int) (w : World) (R : Ending → World → Prop) : Prop := ∀ b w1, New w (Obj.cells #[Value.pointer k] 25) b w1 → ∃ p, Ld Try.prog 25 w1 (Addr.mk b 0 none) (Value.pointer p) ∧ onP p fun a ↦ ∃ p, Ld Try.prog 32 w1 a (Value.pointer p) ∧ CallV
 Try.prog 42 [Value.pointer p, Value.string (ByteArray.mk #[(100 : UInt8), (97 : UInt8), (116 : UInt8), (97 : UInt8)]), Value.int IntKind.i64 many, Value.func (Fn.func 43) #[] #[Value.pointer
 (some (Addr.mk b 0 none))]] w1 fun e w' ↦ ∃ p i, e = Ending.returned (Value.tuple #[Value.pointer p, Value.int IntKind.i64 i]) ∧ br (!decide (i = (0 : Int))) (R (Ending.returned (Value.pointer none))
 w') (∃ b_1, Eqv Try.prog BinOp.eql 33 (Operand.tmp 20) (Operand.const (Value.pointer none)) w' (Value.pointer p) (Value.pointer none) b_1 ∧ br b_1 (R (Ending.returned (Value.pointer none))
 w') (∃ p_1, Ld Try.prog 25 (World.drew w') (Addr.mk b 0 none) (Value.pointer p_1) ∧ ∃ p_2, Ld Try.prog 25 (World.drew w') (Addr.mk b 0 none) (Value.pointer p_2) ∧ onP p_1 fun a ↦ ∃
 w1, St Try.prog 33 (World.drew w') (Addr.add a 1) (Value.pointer p) w1 ∧ Ld Try.prog 25 w1 (Addr.mk b 0 none) (Value.pointer p_2) ∧ onP p_2 fun a ↦ ∃ w1_1, St Try.prog 35
 w1 (Addr.add a 4) (Value.agg #[Value.pointer none, Value.pointer none, Value.pointer none, Value.pointer none, Value.pointer none, Value.pointer none, Value.pointer none, Value.pointer none,
 Value.pointer none, Value.pointer none, Value.pointer none, Value.pointer none]) w1_1 ∧ ∃ p, Ld Try.prog 25 w1_1 (Addr.mk b 0 none) (Value.pointer p) ∧ R (Ending.returned (Value.pointer p))
 w1_1))
theorem dopen.eq (k : Option Addr) (many : Int) (w : World) (R : Ending → World → Prop) : bodyV Try.prog dopen.an Try.f18 [.pointer k, .int .i64 many] w R = dopen.vc k many w R := by kernel_rfl
theorem dopen.ok (k : Option Addr) (many : Int) (w : World) (R : Ending → World → Prop) (h : dopen.vc k many w R) : Calls Try.prog 18 #[.pointer k, .int .i64 many] w R :=
  calls_of_bodyV noNum (an := dopen.an) (args := [.pointer k, .int .i64 many]) Try.func18 (by kernel_rfl) ((dopen.eq k many w R).mpr h)

/-- (*incunable/incunablelaw12.desk).open$1 -/
def dopenC.an : An := { wraps := [], loops := [], joins := [], ranges := [] }
def dopenC.vc (stamp : Int) (free0 : Option Addr) (w : World) (R : Ending → World → Prop) : Prop := ∃ p, (onP free0 fun a ↦ Ld Try.prog 25 (World.drew w) a (Value.pointer p)) ∧ ∃ p_1, (onP free0 fun a ↦ Ld Try.prog 25 (World.drew w) a (Value.pointer p_1)) ∧ onP p_1 fun a ↦ ∃ a_1 l
 c, Ld Try.prog 34 (World.drew w) (Addr.add a 2) (Value.slice a_1 l c) ∧ ∀ b w1, New (World.drew w) (Obj.cells #[Value.int IntKind.i64 stamp] 3) b w1 → Ld Try.prog 34 w1 (Addr.add a
 2) (Value.slice a_1 l c) ∧ (onP free0 fun a ↦ Ld Try.prog 25 w1 a (Value.pointer p_1)) ∧ (onP free0 fun a ↦ Ld Try.prog 25 w1 a (Value.pointer p)) ∧ ∃ a n m w1_1, App
 Try.prog #[34, 34] 34 w1 (Value.slice a_1 l c) (Value.slice (some (Addr.mk b 0 none)) 1 1) (Value.slice a n m) w1_1 ∧ (onP free0 fun a ↦ Ld Try.prog 25 w1_1 a (Value.pointer p)) ∧
 onP p fun a_3 ↦ ∃ w1, St Try.prog 34 w1_1 (Addr.add a_3 2) (Value.slice a n m) w1 ∧ ∃ p, (onP free0 fun a ↦ Ld Try.prog 25 w1 a (Value.pointer p)) ∧ onP p fun a ↦ ∃ b, Ld
 Try.prog 4 w1 (Addr.add a 3) (Value.bool b) ∧ br b (R (Ending.returned (Value.int IntKind.i64 190)) w1) (R (Ending.returned (Value.int IntKind.i64 0)) w1)
theorem dopenC.eq (stamp : Int) (free0 : Option Addr) (w : World) (R : Ending → World → Prop) : bodyV Try.prog dopenC.an Try.f43 [.int .i64 stamp, (.pointer free0)] w R = dopenC.vc stamp free0 w R := by kernel_rfl
theorem dopenC.ok (stamp : Int) (free0 : Option Addr) (w : World) (R : Ending → World → Prop) (h : dopenC.vc stamp free0 w R) : Calls Try.prog 43 #[.int .i64 stamp, (.pointer free0)] w R :=
  calls_of_bodyV noNum (an := dopenC.an) (args := [.int .i64 stamp, (.pointer free0)]) Try.func43 (by kernel_rfl) ((dopenC.eq stamp free0 w R).mpr h)

/-- incunable/incunablelaw12.alive -/
def alive.an : An := { wraps := [], loops := [], joins := [], ranges := [] }
def alive.vc  (w : World) (R : Ending → World → Prop) : Prop := CallV Try.prog 10 [Value.int IntKind.i64 4] w fun e w' ↦ ∃ p, e = Ending.returned (Value.pointer p) ∧ ∃ b, Eqv Try.prog BinOp.eql 25 (Operand.tmp 8) (Operand.const (Value.pointer
 none)) w' (Value.pointer p) (Value.pointer none) b ∧ br b (R (Ending.returned (Value.bool false)) w') (onP p fun a ↦ ∃ p_1, Ld Try.prog 33 w' (Addr.add a 1) (Value.pointer p_1) ∧ CallV
 Try.prog 22 [Value.pointer p_1, Value.int IntKind.i64 0] w' fun e w' ↦ ∃ p_2 i, e = Ending.returned (Value.tuple #[Value.pointer p_2, Value.int IntKind.i64 i]) ∧ br (!decide (i = (0 : Int)))
 (R (Ending.returned (Value.bool false)) w') (∃ b, Eqv Try.prog BinOp.eql 31 (Operand.tmp 21) (Operand.const (Value.pointer none)) w' (Value.pointer p_2) (Value.pointer none) b ∧ br b (R
 (Ending.returned (Value.bool false)) w') (CallV Try.prog 23 [Value.pointer p_2, Value.string (ByteArray.mk #[(97 : UInt8)])] w' fun e w' ↦ ∃ i i_1, e = Ending.returned (Value.tuple
 #[Value.int IntKind.i64 i, Value.int IntKind.i64 i_1]) ∧ onP p fun a ↦ ∃ p_3, Ld Try.prog 33 w' (Addr.add a 1) (Value.pointer p_3) ∧ CallV Try.prog 24 [Value.pointer p_3, Value.int
 IntKind.i64 0, Value.bool true] w' fun e w' ↦ ∃ b, e = Ending.returned (Value.bool b) ∧ onP p fun a ↦ ∃ p_4, Ld Try.prog 33 w' (Addr.add a 1) (Value.pointer p_4) ∧ CallV Try.prog
 25 [Value.pointer p_4] w' fun e w' ↦ ∃ a l c, e = Ending.returned (Value.slice a l c) ∧ onP p fun a ↦ ∃ p_5, Ld Try.prog 33 w' (Addr.add a 1) (Value.pointer p_5) ∧ CallV Try.prog
 26 [Value.pointer p_5] w' fun e w' ↦ ∃ i, e = Ending.returned (Value.int IntKind.i64 i) ∧ br b (br (decide ((↑l : Int) = (1 : Int))) (br (decide (i = (0 : Int))) (onP p fun a ↦ ∃ p_6, Ld
 Try.prog 33 w' (Addr.add a 1) (Value.pointer p_6) ∧ CallV Try.prog 25 [Value.pointer p_6] w' fun e w' ↦ ∃ a l c, e = Ending.returned (Value.slice a l c) ∧ br (decide ((↑l : Int) =
 (0 : Int))) (onP p fun a ↦ ∃ p_7, Ld Try.prog 32 w' a (Value.pointer p_7) ∧ CallV Try.prog 17 [Value.pointer p_7, Value.string (ByteArray.mk #[(100 : UInt8), (97 : UInt8), (116 :
 UInt8), (97 : UInt8)])] w' fun e w' ↦ ∃ i, e = Ending.returned (Value.int IntKind.i64 i) ∧ br (decide (i = (8 : Int))) (onP p fun a ↦ ∃ a_1 l c, Ld Try.prog 34 w' (Addr.add a 2) (Value.slice
 a_1 l c) ∧ R (Ending.returned (Value.bool (decide ((↑l : Int) = (1 : Int))))) w') (R (Ending.returned (Value.bool false)) w')) (R (Ending.returned (Value.bool false)) w')) (R (Ending.returned
 (Value.bool false)) w')) (R (Ending.returned (Value.bool false)) w')) (R (Ending.returned (Value.bool false)) w'))))
theorem alive.eq  (w : World) (R : Ending → World → Prop) : bodyV Try.prog alive.an Try.f9 [] w R = alive.vc  w R := by kernel_rfl
theorem alive.ok  (w : World) (R : Ending → World → Prop) (h : alive.vc  w R) : Calls Try.prog 9 #[] w R :=
  calls_of_bodyV noNum (an := alive.an) (args := []) Try.func9 (by kernel_rfl) ((alive.eq  w R).mpr h)

/-- incunable/incunablelaw12.change -/
def change.an : An := { wraps := [], loops := [], joins := [], ranges := [] }
def change.vc (x : Option Addr) (o_Kind : Int) (o_Slot : Int) (o_N : Int) (o_S : ByteArray) (w : World) (R : Ending → World → Prop) : Prop := ∀ b w1, New w (Obj.cells #[Value.int IntKind.i64 o_Kind, Value.int IntKind.i64 o_Slot, Value.int IntKind.i64 o_N, Value.string o_S] 28) b w1 → ∃ i, Ld Try.prog 3 w1 (Addr.mk b 0 none)
 (Value.int IntKind.i64 i) ∧ br (decide (i = (0 : Int))) (∃ s, Ld Try.prog 9 w1 (Addr.mk b 3 none) (Value.string s) ∧ CallV Try.prog 23 [Value.pointer x, Value.string s] w1 fun e w'
 ↦ ∃ i i_1, e = Ending.returned (Value.tuple #[Value.int IntKind.i64 i, Value.int IntKind.i64 i_1]) ∧ R (Ending.returned (Value.int IntKind.i64 i_1)) w') (br (decide (i = (1 : Int))) (∃ i, Ld
 Try.prog 3 w1 (Addr.mk b 1 none) (Value.int IntKind.i64 i) ∧ ∃ s, Ld Try.prog 9 w1 (Addr.mk b 3 none) (Value.string s) ∧ CallV Try.prog 31 [Value.pointer x, Value.int
 IntKind.i64 i, Value.string s] w1 fun e w' ↦ ∃ i, e = Ending.returned (Value.int IntKind.i64 i) ∧ R (Ending.returned (Value.int IntKind.i64 i)) w') (br (decide (i = (2 : Int))) (∃ i, Ld
 Try.prog 3 w1 (Addr.mk b 1 none) (Value.int IntKind.i64 i) ∧ CallV Try.prog 55 [Value.pointer x, Value.int IntKind.i64 i] w1 fun e w' ↦ ∃ i, e = Ending.returned (Value.int
 IntKind.i64 i) ∧ R (Ending.returned (Value.int IntKind.i64 i)) w') (br (decide (i = (3 : Int))) (∃ i, Ld Try.prog 3 w1 (Addr.mk b 2 none) (Value.int IntKind.i64 i) ∧ CallV Try.prog
 30 [Value.pointer x, Value.int IntKind.i64 i] w1 fun e w' ↦ ∃ b, e = Ending.returned (Value.bool b) ∧ br (!b) (R (Ending.returned (Value.int IntKind.i64 1)) w') (R (Ending.returned (Value.int
 IntKind.i64 0)) w')) (R (Ending.returned (Value.int IntKind.i64 0)) w1))))
theorem change.eq (x : Option Addr) (o_Kind : Int) (o_Slot : Int) (o_N : Int) (o_S : ByteArray) (w : World) (R : Ending → World → Prop) : bodyV Try.prog change.an Try.f28 [.pointer x, .agg #[.int .i64 o_Kind, .int .i64 o_Slot, .int .i64 o_N, .string o_S]] w R = change.vc x o_Kind o_Slot o_N o_S w R := by kernel_rfl
theorem change.ok (x : Option Addr) (o_Kind : Int) (o_Slot : Int) (o_N : Int) (o_S : ByteArray) (w : World) (R : Ending → World → Prop) (h : change.vc x o_Kind o_Slot o_N o_S w R) : Calls Try.prog 28 #[.pointer x, .agg #[.int .i64 o_Kind, .int .i64 o_Slot, .int .i64 o_N, .string o_S]] w R :=
  calls_of_bodyV noNum (an := change.an) (args := [.pointer x, .agg #[.int .i64 o_Kind, .int .i64 o_Slot, .int .i64 o_N, .string o_S]]) Try.func28 (by kernel_rfl) ((change.eq x o_Kind o_Slot o_N o_S w R).mpr h)

/-- (*incunable/incunablelaw12.desk).does -/
def does.an : An := { wraps := [], loops := [], joins := [(2, [(5, .inr 0)])], ranges := [] }
def does.vc (k : Option Addr) (o_Kind : Int) (o_N : Int) (o_Changed : Bool) (o_O_Kind : Int) (o_O_Slot : Int) (o_O_N : Int) (o_O_S : ByteArray) (o_S : ByteArray) (o_Stamp : Int) (w : World) (R : Ending → World → Prop) : Prop := ∀ b w1, New w (Obj.cells #[Value.int IntKind.i64 o_Kind, Value.int IntKind.i64 o_N, Value.bool o_Changed, Value.int IntKind.i64 o_O_Kind, Value.int IntKind.i64 o_O_Slot, Value.int IntKind.i64 o_O_N,
 Value.string o_O_S, Value.string o_S, Value.int IntKind.i64 o_Stamp] 30) b w1 → JoinP (fun s w' ↦ ∃ i, Ld Try.prog 3 w' (Addr.mk b 0 none) (Value.int IntKind.i64 i) ∧ br (decide (i = (0 :
 Int))) (onP k fun a ↦ ∃ p, Ld Try.prog 33 (World.drew w') (Addr.add a 1) (Value.pointer p) ∧ ∃ i, Ld Try.prog 3 (World.drew w') (Addr.mk b 1 none) (Value.int IntKind.i64 i) ∧ CallV
 Try.prog 22 [Value.pointer p, Value.int IntKind.i64 i] (World.drew w') fun e w' ↦ ∃ p i, e = Ending.returned (Value.tuple #[Value.pointer p, Value.int IntKind.i64 i]) ∧ br (decide (i = (0 :
 Int))) (br s (∃ i_1, Ld Try.prog 3 (World.drew w') (Addr.mk b 1 none) (Value.int IntKind.i64 i_1) ∧ onP k fun a ↦ ((0 : Int) ≤ i_1 ∧ i_1 < (↑(12 : Nat) : Int)) ∧ ∃ w1, St Try.prog
 31 (World.drew w') (Addr.add (Addr.add a 4) (Int.toNat i_1 * 1)) (Value.pointer p) w1 ∧ R (Ending.returned (Value.int IntKind.i64 i)) w1) (R (Ending.returned (Value.int IntKind.i64 i)) w')) (R
 (Ending.returned (Value.int IntKind.i64 i)) w')) (br (decide (i = (1 : Int))) (onP k fun a ↦ ∃ p, Ld Try.prog 33 (World.drew w') (Addr.add a 1) (Value.pointer p) ∧ ∃ i, Ld Try.prog
 3 (World.drew w') (Addr.mk b 1 none) (Value.int IntKind.i64 i) ∧ CallV Try.prog 24 [Value.pointer p, Value.int IntKind.i64 i, Value.bool true] (World.drew w') fun e w' ↦ ∃ b, e =
 Ending.returned (Value.bool b) ∧ br (!b) (R (Ending.returned (Value.int IntKind.i64 1)) w') (R (Ending.returned (Value.int IntKind.i64 0)) w')) (br (decide (i = (2 : Int))) (br (!s) (R
 (Ending.returned (Value.int IntKind.i64 1)) (World.drew w')) (∃ i, Ld Try.prog 3 (World.drew w') (Addr.mk b 1 none) (Value.int IntKind.i64 i) ∧ onP k fun a ↦ ((0 : Int) ≤ i ∧ i < (↑(12 :
 Nat) : Int)) ∧ ∃ p, Ld Try.prog 31 (World.drew w') (Addr.add (Addr.add a 4) (Int.toNat i * 1)) (Value.pointer p) ∧ ∃ b_1, Eqv Try.prog BinOp.eql 31 (Operand.tmp 65) (Operand.const
 (Value.pointer none)) (World.drew w') (Value.pointer p) (Value.pointer none) b_1 ∧ br b_1 (R (Ending.returned (Value.int IntKind.i64 1)) (World.drew w')) (∃ i, Ld Try.prog 3 (World.drew
 (World.drew w')) (Addr.mk b 1 none) (Value.int IntKind.i64 i) ∧ onP k fun a ↦ ((0 : Int) ≤ i ∧ i < (↑(12 : Nat) : Int)) ∧ ∃ p, Ld Try.prog 31 (World.drew (World.drew w')) (Addr.add (Addr.add
 a 4) (Int.toNat i * 1)) (Value.pointer p) ∧ ∃ i i_1 i_2 s, Ld Try.prog 28 (World.drew (World.drew w')) (Addr.mk b 3 none) (Value.agg #[Value.int IntKind.i64 i, Value.int IntKind.i64 i_1,
 Value.int IntKind.i64 i_2, Value.string s]) ∧ CallV Try.prog 28 [Value.pointer p, Value.agg #[Value.int IntKind.i64 i, Value.int IntKind.i64 i_1, Value.int IntKind.i64 i_2, Value.string s]]
 (World.drew (World.drew w')) fun e w' ↦ ∃ i, e = Ending.returned (Value.int IntKind.i64 i) ∧ R (Ending.returned (Value.int IntKind.i64 i)) w'))) (br (decide (i = (3 : Int))) (onP k fun a ↦ ∃ p, Ld
 Try.prog 33 w' (Addr.add a 1) (Value.pointer p) ∧ CallV Try.prog 26 [Value.pointer p] w' fun e w' ↦ ∃ i, e = Ending.returned (Value.int IntKind.i64 i) ∧ R (Ending.returned
 (Value.int IntKind.i64 i)) w') (br (decide (i = (4 : Int))) (CallV Try.prog 29 [] w' fun e w' ↦ ∃ p, e = Ending.returned (Value.pointer p) ∧ ∃ i, Ld Try.prog 3 w' (Addr.mk b 8
 none) (Value.int IntKind.i64 i) ∧ CallV Try.prog 30 [Value.pointer p, Value.int IntKind.i64 i] w' fun e w' ↦ ∃ b_1, e = Ending.returned (Value.bool b_1) ∧ ∃ s, Ld Try.prog 9 w'
 (Addr.mk b 7 none) (Value.string s) ∧ CallV Try.prog 31 [Value.pointer p, Value.int IntKind.i64 0, Value.string s] w' fun e w' ↦ ∃ i, e = Ending.returned (Value.int IntKind.i64 i) ∧ onP k
 fun a ↦ ∃ p_1, Ld Try.prog 33 (World.drew w') (Addr.add a 1) (Value.pointer p_1) ∧ ∃ i, Ld Try.prog 3 (World.drew w') (Addr.mk b 1 none) (Value.int IntKind.i64 i) ∧ CallV
 Try.prog 32 [Value.pointer p_1, Value.int IntKind.i64 i, Value.pointer p] (World.drew w') fun e w' ↦ ∃ i, e = Ending.returned (Value.int IntKind.i64 i) ∧ R (Ending.returned (Value.int
 IntKind.i64 i)) w') (R (Ending.returned (Value.int IntKind.i64 0)) w')))))) fun (J : Bool → World → Prop) ↦ ∃ i, Ld Try.prog 3 w1 (Addr.mk b 1 none) (Value.int IntKind.i64 i) ∧ br (decide
 ((0 : Int) ≤ i)) (∃ i, Ld Try.prog 3 w1 (Addr.mk b 1 none) (Value.int IntKind.i64 i) ∧ J (decide (i < (12 : Int))) w1) (J false w1)
theorem does.eq (k : Option Addr) (o_Kind : Int) (o_N : Int) (o_Changed : Bool) (o_O_Kind : Int) (o_O_Slot : Int) (o_O_N : Int) (o_O_S : ByteArray) (o_S : ByteArray) (o_Stamp : Int) (w : World) (R : Ending → World → Prop) : bodyV Try.prog does.an Try.f11 [.pointer k, .agg #[.int .i64 o_Kind, .int .i64 o_N, .bool o_Changed, .int .i64 o_O_Kind, .int .i64 o_O_Slot, .int .i64 o_O_N, .string o_O_S, .string o_S, .int .i64 o_Stamp]] w R = does.vc k o_Kind o_N o_Changed o_O_Kind o_O_Slot o_O_N o_O_S o_S o_Stamp w R := by kernel_rfl
theorem does.ok (k : Option Addr) (o_Kind : Int) (o_N : Int) (o_Changed : Bool) (o_O_Kind : Int) (o_O_Slot : Int) (o_O_N : Int) (o_O_S : ByteArray) (o_S : ByteArray) (o_Stamp : Int) (w : World) (R : Ending → World → Prop) (h : does.vc k o_Kind o_N o_Changed o_O_Kind o_O_Slot o_O_N o_O_S o_S o_Stamp w R) : Calls Try.prog 11 #[.pointer k, .agg #[.int .i64 o_Kind, .int .i64 o_N, .bool o_Changed, .int .i64 o_O_Kind, .int .i64 o_O_Slot, .int .i64 o_O_N, .string o_O_S, .string o_S, .int .i64 o_Stamp]] w R :=
  calls_of_bodyV noNum (an := does.an) (args := [.pointer k, .agg #[.int .i64 o_Kind, .int .i64 o_N, .bool o_Changed, .int .i64 o_O_Kind, .int .i64 o_O_Slot, .int .i64 o_O_N, .string o_O_S, .string o_S, .int .i64 o_Stamp]]) Try.func11 (by kernel_rfl) ((does.eq k o_Kind o_N o_Changed o_O_Kind o_O_Slot o_O_N o_O_S o_S o_Stamp w R).mpr h)

/-- incunable/incunablelaw12.few -/
def few.an : An := { wraps := [], loops := [(2, [(7, .inl .i64)])], joins := [], ranges := [] }
def few.vc (scripta : Option Addr) (scriptn : Nat) (scriptc : Nat) (w : World) (R : Ending → World → Prop) : Prop := LoopP (fun (s : Int) (w' : World) (next : Int → World → Prop) ↦ br (decide (s < (↑scriptn : Int))) (onP scripta fun a ↦ ((0 : Int) ≤ s ∧ s < (↑scriptn : Int)) ∧ ∃ i i_1 b i_2 i_3 i_4 s_1 s_2 i_5, Ld
 Try.prog 30 w' (Addr.add a (Int.toNat s * 9)) (Value.agg #[Value.int IntKind.i64 i, Value.int IntKind.i64 i_1, Value.bool b, Value.int IntKind.i64 i_2, Value.int IntKind.i64 i_3, Value.int
 IntKind.i64 i_4, Value.string s_1, Value.string s_2, Value.int IntKind.i64 i_5]) ∧ ∀ b_1 w1, New w' (Obj.cells #[Value.int IntKind.i64 0, Value.int IntKind.i64 0, Value.bool false, Value.int
 IntKind.i64 0, Value.int IntKind.i64 0, Value.int IntKind.i64 0, Value.string (ByteArray.mk #[]), Value.string (ByteArray.mk #[]), Value.int IntKind.i64 0] 30) b_1 w1 → ∃ w1_1, St Try.prog
 30 w1 (Addr.mk b_1 0 none) (Value.agg #[Value.int IntKind.i64 i, Value.int IntKind.i64 i_1, Value.bool b, Value.int IntKind.i64 i_2, Value.int IntKind.i64 i_3, Value.int IntKind.i64 i_4, Value.string
 s_1, Value.string s_2, Value.int IntKind.i64 i_5]) w1_1 ∧ ∃ i, Ld Try.prog 3 w1_1 (Addr.mk b_1 1 none) (Value.int IntKind.i64 i) ∧ br (decide ((12 : Int) ≤ i)) (∃ i, Ld Try.prog 3
 w1_1 (Addr.mk b_1 1 none) (Value.int IntKind.i64 i) ∧ br (decide (i < (4096 : Int))) (R (Ending.returned (Value.bool false)) w1_1) (∃ i, Ld Try.prog 3 w1_1 (Addr.mk b_1 8 none) (Value.int
 IntKind.i64 i) ∧ br (decide (i < (0 : Int))) (R (Ending.returned (Value.bool false)) w1_1) (∃ i, Ld Try.prog 3 w1_1 (Addr.mk b_1 8 none) (Value.int IntKind.i64 i) ∧ br (decide
 ((4611686018427387904 : Int) < i)) (R (Ending.returned (Value.bool false)) w1_1) (∃ s_3, Ld Try.prog 9 w1_1 (Addr.mk b_1 7 none) (Value.string s_3) ∧ br (decide ((3600 : Int) <
 (↑(ByteArray.size s_3) : Int))) (R (Ending.returned (Value.bool false)) w1_1) (inR IntKind.i64 (s + (1 : Int)) ∧ next (s + (1 : Int)) w1_1))))) (∃ i, Ld Try.prog 3 w1_1 (Addr.mk b_1 8 none)
 (Value.int IntKind.i64 i) ∧ br (decide (i < (0 : Int))) (R (Ending.returned (Value.bool false)) w1_1) (∃ i, Ld Try.prog 3 w1_1 (Addr.mk b_1 8 none) (Value.int IntKind.i64 i) ∧ br (decide
 ((4611686018427387904 : Int) < i)) (R (Ending.returned (Value.bool false)) w1_1) (∃ s_3, Ld Try.prog 9 w1_1 (Addr.mk b_1 7 none) (Value.string s_3) ∧ br (decide ((3600 : Int) <
 (↑(ByteArray.size s_3) : Int))) (R (Ending.returned (Value.bool false)) w1_1) (inR IntKind.i64 (s + (1 : Int)) ∧ next (s + (1 : Int)) w1_1))))) (R (Ending.returned (Value.bool (decide ((↑scriptn :
 Int) ≤ (200 : Int))))) w')) (0 : Int) w
theorem few.eq (scripta : Option Addr) (scriptn : Nat) (scriptc : Nat) (w : World) (R : Ending → World → Prop) : bodyV Try.prog few.an Try.f8 [.slice scripta scriptn scriptc] w R = few.vc scripta scriptn scriptc w R := by kernel_rfl
theorem few.ok (scripta : Option Addr) (scriptn : Nat) (scriptc : Nat) (w : World) (R : Ending → World → Prop) (h : few.vc scripta scriptn scriptc w R) : Calls Try.prog 8 #[.slice scripta scriptn scriptc] w R :=
  calls_of_bodyV noNum (an := few.an) (args := [.slice scripta scriptn scriptc]) Try.func8 (by kernel_rfl) ((few.eq scripta scriptn scriptc w R).mpr h)

/-- (*incunable/incunablelaw12.desk).plays -/
def plays.an : An := { wraps := [], loops := [(2, [(16, .inl .i64)])], joins := [], ranges := [] }
def plays.vc (k : Option Addr) (r_Pagesa : Option Addr) (r_Pagesn : Nat) (r_Pagesc : Nat) (r_Pinsa : Option Addr) (r_Pinsn : Nat) (r_Pinsc : Nat) (r_Many : Int) (scripta : Option Addr) (scriptn : Nat) (scriptc : Nat) (w : World) (R : Ending → World → Prop) : Prop := ∀ b w1, New w (Obj.cells #[Value.slice r_Pagesa r_Pagesn r_Pagesc, Value.slice r_Pinsa r_Pinsn r_Pinsc, Value.int IntKind.i64 r_Many] 46) b w1 → ∀ b_1 w1_1, New w1 (Obj.cells #[Value.slice none 0 0,
 Value.slice none 0 0, Value.int IntKind.i64 0] 46) b_1 w1_1 → LoopP (fun (s : Int) (w' : World) (next : Int → World → Prop) ↦ br (decide (s < (↑scriptn : Int))) (onP scripta fun a ↦ ((0 : Int) ≤ s ∧ s
 < (↑scriptn : Int)) ∧ ∃ i i_1 b_2 i_2 i_3 i_4 s_1 s_2 i_5, Ld Try.prog 30 w' (Addr.add a (Int.toNat s * 9)) (Value.agg #[Value.int IntKind.i64 i, Value.int IntKind.i64 i_1, Value.bool b_2,
 Value.int IntKind.i64 i_2, Value.int IntKind.i64 i_3, Value.int IntKind.i64 i_4, Value.string s_1, Value.string s_2, Value.int IntKind.i64 i_5]) ∧ ∀ b_3 w1, New w' (Obj.cells #[Value.int IntKind.i64
 0, Value.int IntKind.i64 0, Value.bool false, Value.int IntKind.i64 0, Value.int IntKind.i64 0, Value.int IntKind.i64 0, Value.string (ByteArray.mk #[]), Value.string (ByteArray.mk #[]), Value.int
 IntKind.i64 0] 30) b_3 w1 → ∃ w1_2, St Try.prog 30 w1 (Addr.mk b_3 0 none) (Value.agg #[Value.int IntKind.i64 i, Value.int IntKind.i64 i_1, Value.bool b_2, Value.int IntKind.i64 i_2,
 Value.int IntKind.i64 i_3, Value.int IntKind.i64 i_4, Value.string s_1, Value.string s_2, Value.int IntKind.i64 i_5]) w1_2 ∧ ∃ a l c a_1 l_1 c_1 i, Ld Try.prog 46 w1_2 (Addr.mk b 0 none)
 (Value.agg #[Value.slice a l c, Value.slice a_1 l_1 c_1, Value.int IntKind.i64 i]) ∧ ∃ i_6 i_7 b_4 i_8 i_9 i_10 s_3 s_4 i_11, Ld Try.prog 30 w1_2 (Addr.mk b_3 0 none) (Value.agg #[Value.int
 IntKind.i64 i_6, Value.int IntKind.i64 i_7, Value.bool b_4, Value.int IntKind.i64 i_8, Value.int IntKind.i64 i_9, Value.int IntKind.i64 i_10, Value.string s_3, Value.string s_4, Value.int IntKind.i64
 i_11]) ∧ CallV Try.prog 15 [Value.agg #[Value.slice a l c, Value.slice a_1 l_1 c_1, Value.int IntKind.i64 i], Value.agg #[Value.int IntKind.i64 i_6, Value.int IntKind.i64 i_7, Value.bool
 b_4, Value.int IntKind.i64 i_8, Value.int IntKind.i64 i_9, Value.int IntKind.i64 i_10, Value.string s_3, Value.string s_4, Value.int IntKind.i64 i_11]] w1_2 fun e w' ↦ ∃ a l c a_2 l_2 c_2 i i_12, e =
 Ending.returned (Value.tuple #[Value.agg #[Value.slice a l c, Value.slice a_2 l_2 c_2, Value.int IntKind.i64 i], Value.int IntKind.i64 i_12]) ∧ ∀ b_5 w1, New w' (Obj.cells #[Value.slice none 0 0,
 Value.slice none 0 0, Value.int IntKind.i64 0] 46) b_5 w1 → ∃ w1_3, St Try.prog 46 w1 (Addr.mk b_5 0 none) (Value.agg #[Value.slice a l c, Value.slice a_2 l_2 c_2, Value.int IntKind.i64 i])
 w1_3 ∧ ∃ a l c a_4 l_3 c_3 i, Ld Try.prog 46 w1_3 (Addr.mk b_5 0 none) (Value.agg #[Value.slice a l c, Value.slice a_4 l_3 c_3, Value.int IntKind.i64 i]) ∧ ∃ w1, St Try.prog 46
 w1_3 (Addr.mk b 0 none) (Value.agg #[Value.slice a l c, Value.slice a_4 l_3 c_3, Value.int IntKind.i64 i]) w1 ∧ ∃ i, Ld Try.prog 3 w1 (Addr.mk b_3 0 none) (Value.int IntKind.i64 i) ∧ br
 (decide (i = (2 : Int))) (∃ i, Ld Try.prog 3 w1 (Addr.mk b_3 1 none) (Value.int IntKind.i64 i) ∧ br (decide ((0 : Int) ≤ i)) (∃ i, Ld Try.prog 3 w1 (Addr.mk b_3 1 none) (Value.int
 IntKind.i64 i) ∧ br (decide (i < (12 : Int))) (∃ a l c, Ld Try.prog 34 w1 (Addr.mk b 1 none) (Value.slice a l c) ∧ ∃ i, Ld Try.prog 3 w1 (Addr.mk b_3 1 none) (Value.int IntKind.i64
 i) ∧ onP a fun a ↦ ((0 : Int) ≤ i ∧ i < (↑l : Int)) ∧ ∃ i_13, Ld Try.prog 3 w1 (Addr.add a (Int.toNat i * 1)) (Value.int IntKind.i64 i_13) ∧ br (decide (i_13 = (0 : Int))) (inR IntKind.i64
 (s + (1 : Int)) ∧ next (s + (1 : Int)) w1) (∃ i i_14 b_6 i_15 i_16 i_17, ∃ (s_5 : ByteArray), ∃ (s_6 : ByteArray), ∃ (i_18 : Int), Ld Try.prog 30 w1 (Addr.mk b_3 0 none) (Value.agg
 #[Value.int IntKind.i64 i, Value.int IntKind.i64 i_14, Value.bool b_6, Value.int IntKind.i64 i_15, Value.int IntKind.i64 i_16, Value.int IntKind.i64 i_17, Value.string s_5, Value.string s_6, Value.int
 IntKind.i64 i_18]) ∧ CallV Try.prog 11 [Value.pointer k, Value.agg #[Value.int IntKind.i64 i, Value.int IntKind.i64 i_14, Value.bool b_6, Value.int IntKind.i64 i_15, Value.int IntKind.i64
 i_16, Value.int IntKind.i64 i_17, Value.string s_5, Value.string s_6, Value.int IntKind.i64 i_18]] w1 fun (e : Ending) (w' : World) ↦ ∃ (i : Int), e = Ending.returned (Value.int IntKind.i64 i) ∧ br
 (!decide (i = i_12)) (∃ (a : Option Addr), ∃ (l : Nat), ∃ (c : Nat), ∃ (a_5 : Option Addr), ∃ (l_4 : Nat), ∃ (c_4 : Nat), ∃ (i : Int), Ld Try.prog 46 w' (Addr.mk b 0 none) (Value.agg
 #[Value.slice a l c, Value.slice a_5 l_4 c_4, Value.int IntKind.i64 i]) ∧ ∃ (w1 : World), St Try.prog 46 w' (Addr.mk b_1 0 none) (Value.agg #[Value.slice a l c, Value.slice a_5 l_4 c_4,
 Value.int IntKind.i64 i]) w1 ∧ ∃ (a : Option Addr), ∃ (l : Nat), ∃ (c : Nat), ∃ (a_6 : Option Addr), ∃ (l_5 : Nat), ∃ (c_5 : Nat), ∃ (i : Int), Ld Try.prog 46 w1 (Addr.mk b_1 0 none)
 (Value.agg #[Value.slice a l c, Value.slice a_6 l_5 c_5, Value.int IntKind.i64 i]) ∧ R (Ending.returned (Value.tuple #[Value.agg #[Value.slice a l c, Value.slice a_6 l_5 c_5, Value.int IntKind.i64 i],
 Value.bool false])) w1) (onP k fun (a : Addr) ↦ ∃ (p : Option Addr), Ld Try.prog 33 (World.drew w') (Addr.add a 1) (Value.pointer p) ∧ onP k fun (a : Addr) ↦ ∃ (p_1 : Option Addr), Ld
 Try.prog 33 (World.drew w') (Addr.add a 1) (Value.pointer p_1) ∧ CallV Try.prog 45 [Value.pointer p] (World.drew w') fun (e : Ending) (w' : World) ↦ ∃ (a_5 : Option Addr), ∃ (l :
 Nat), ∃ (c : Nat), e = Ending.returned (Value.slice a_5 l c) ∧ Ld Try.prog 33 w' (Addr.add a 1) (Value.pointer p_1) ∧ CallV Try.prog 25 [Value.pointer p_1] w' fun (e : Ending) (w'
 : World) ↦ ∃ (a : Option Addr), ∃ (l_4 : Nat), ∃ (c : Nat), e = Ending.returned (Value.slice a l_4 c) ∧ ∃ (i : Int), Ld Try.prog 3 w' (Addr.mk b 2 none) (Value.int IntKind.i64 i) ∧ br
 (decide (i < (↑l : Int))) (∃ (a : Option Addr), ∃ (l : Nat), ∃ (c : Nat), ∃ (a_6 : Option Addr), ∃ (l_5 : Nat), ∃ (c_4 : Nat), ∃ (i : Int), Ld Try.prog 46 w' (Addr.mk b 0 none) (Value.agg
 #[Value.slice a l c, Value.slice a_6 l_5 c_4, Value.int IntKind.i64 i]) ∧ ∃ (w1 : World), St Try.prog 46 w' (Addr.mk b_1 0 none) (Value.agg #[Value.slice a l c, Value.slice a_6 l_5 c_4,
 Value.int IntKind.i64 i]) w1 ∧ ∃ (a : Option Addr), ∃ (l : Nat), ∃ (c : Nat), ∃ (a_7 : Option Addr), ∃ (l_6 : Nat), ∃ (c_5 : Nat), ∃ (i : Int), Ld Try.prog 46 w1 (Addr.mk b_1 0 none)
 (Value.agg #[Value.slice a l c, Value.slice a_7 l_6 c_5, Value.int IntKind.i64 i]) ∧ R (Ending.returned (Value.tuple #[Value.agg #[Value.slice a l c, Value.slice a_7 l_6 c_5, Value.int IntKind.i64 i],
 Value.bool false])) w1) (br (decide ((↑l : Int) < (↑l_4 : Int))) (∃ (a : Option Addr), ∃ (l : Nat), ∃ (c : Nat), ∃ (a_6 : Option Addr), ∃ (l_5 : Nat), ∃ (c_4 : Nat), ∃ (i : Int), Ld Try.prog
 46 w' (Addr.mk b 0 none) (Value.agg #[Value.slice a l c, Value.slice a_6 l_5 c_4, Value.int IntKind.i64 i]) ∧ ∃ (w1 : World), St Try.prog 46 w' (Addr.mk b_1 0 none) (Value.agg #[Value.slice
 a l c, Value.slice a_6 l_5 c_4, Value.int IntKind.i64 i]) w1 ∧ ∃ (a : Option Addr), ∃ (l : Nat), ∃ (c : Nat), ∃ (a_7 : Option Addr), ∃ (l_6 : Nat), ∃ (c_5 : Nat), ∃ (i : Int), Ld Try.prog 46
 w1 (Addr.mk b_1 0 none) (Value.agg #[Value.slice a l c, Value.slice a_7 l_6 c_5, Value.int IntKind.i64 i]) ∧ R (Ending.returned (Value.tuple #[Value.agg #[Value.slice a l c, Value.slice a_7 l_6 c_5,
 Value.int IntKind.i64 i], Value.bool false])) w1) (inR IntKind.i64 (s + (1 : Int)) ∧ next (s + (1 : Int)) w'))))) (∃ i i_13 b_6 i_14 i_15 i_16 s_5 s_6 i_17, Ld Try.prog 30 w1 (Addr.mk b_3 0
 none) (Value.agg #[Value.int IntKind.i64 i, Value.int IntKind.i64 i_13, Value.bool b_6, Value.int IntKind.i64 i_14, Value.int IntKind.i64 i_15, Value.int IntKind.i64 i_16, Value.string s_5,
 Value.string s_6, Value.int IntKind.i64 i_17]) ∧ CallV Try.prog 11 [Value.pointer k, Value.agg #[Value.int IntKind.i64 i, Value.int IntKind.i64 i_13, Value.bool b_6, Value.int IntKind.i64
 i_14, Value.int IntKind.i64 i_15, Value.int IntKind.i64 i_16, Value.string s_5, Value.string s_6, Value.int IntKind.i64 i_17]] w1 fun (e : Ending) (w' : World) ↦ ∃ i, e = Ending.returned (Value.int
 IntKind.i64 i) ∧ br (!decide (i = i_12)) (∃ a l c, ∃ (a_5 : Option Addr), ∃ l_4 c_4 i, Ld Try.prog 46 w' (Addr.mk b 0 none) (Value.agg #[Value.slice a l c, Value.slice a_5 l_4 c_4, Value.int
 IntKind.i64 i]) ∧ ∃ (w1 : World), St Try.prog 46 w' (Addr.mk b_1 0 none) (Value.agg #[Value.slice a l c, Value.slice a_5 l_4 c_4, Value.int IntKind.i64 i]) w1 ∧ ∃ (a : Option Addr), ∃ (l :
 Nat), ∃ (c : Nat), ∃ (a_6 : Option Addr), ∃ (l_5 : Nat), ∃ (c_5 : Nat), ∃ (i : Int), Ld Try.prog 46 w1 (Addr.mk b_1 0 none) (Value.agg #[Value.slice a l c, Value.slice a_6 l_5 c_5, Value.int
 IntKind.i64 i]) ∧ R (Ending.returned (Value.tuple #[Value.agg #[Value.slice a l c, Value.slice a_6 l_5 c_5, Value.int IntKind.i64 i], Value.bool false])) w1) (onP k fun a ↦ ∃ p, Ld Try.prog
 33 (World.drew w') (Addr.add a 1) (Value.pointer p) ∧ onP k fun a ↦ ∃ (p_1 : Option Addr), Ld Try.prog 33 (World.drew w') (Addr.add a 1) (Value.pointer p_1) ∧ CallV Try.prog 45
 [Value.pointer p] (World.drew w') fun (e : Ending) (w' : World) ↦ ∃ (a_5 : Option Addr), ∃ (l : Nat), ∃ (c : Nat), e = Ending.returned (Value.slice a_5 l c) ∧ Ld Try.prog 33 w' (Addr.add a
 1) (Value.pointer p_1) ∧ CallV Try.prog 25 [Value.pointer p_1] w' fun (e : Ending) (w' : World) ↦ ∃ (a : Option Addr), ∃ (l_4 : Nat), ∃ (c : Nat), e = Ending.returned (Value.slice a l_4 c) ∧
 ∃ (i : Int), Ld Try.prog 3 w' (Addr.mk b 2 none) (Value.int IntKind.i64 i) ∧ br (decide (i < (↑l : Int))) (∃ (a : Option Addr), ∃ (l : Nat), ∃ (c : Nat), ∃ (a_6 : Option Addr), ∃ (l_5 :
 Nat), ∃ (c_4 : Nat), ∃ (i : Int), Ld Try.prog 46 w' (Addr.mk b 0 none) (Value.agg #[Value.slice a l c, Value.slice a_6 l_5 c_4, Value.int IntKind.i64 i]) ∧ ∃ (w1 : World), St
 Try.prog 46 w' (Addr.mk b_1 0 none) (Value.agg #[Value.slice a l c, Value.slice a_6 l_5 c_4, Value.int IntKind.i64 i]) w1 ∧ ∃ (a : Option Addr), ∃ (l : Nat), ∃ (c : Nat), ∃ (a_7 : Option
 Addr), ∃ (l_6 : Nat), ∃ (c_5 : Nat), ∃ (i : Int), Ld Try.prog 46 w1 (Addr.mk b_1 0 none) (Value.agg #[Value.slice a l c, Value.slice a_7 l_6 c_5, Value.int IntKind.i64 i]) ∧ R
 (Ending.returned (Value.tuple #[Value.agg #[Value.slice a l c, Value.slice a_7 l_6 c_5, Value.int IntKind.i64 i], Value.bool false])) w1) (br (decide ((↑l : Int) < (↑l_4 : Int))) (∃ (a : Option Addr),
 ∃ (l : Nat), ∃ (c : Nat), ∃ (a_6 : Option Addr), ∃ (l_5 : Nat), ∃ (c_4 : Nat), ∃ (i : Int), Ld Try.prog 46 w' (Addr.mk b 0 none) (Value.agg #[Value.slice a l c, Value.slice a_6 l_5 c_4,
 Value.int IntKind.i64 i]) ∧ ∃ (w1 : World), St Try.prog 46 w' (Addr.mk b_1 0 none) (Value.agg #[Value.slice a l c, Value.slice a_6 l_5 c_4, Value.int IntKind.i64 i]) w1 ∧ ∃ (a : Option
 Addr), ∃ (l : Nat), ∃ (c : Nat), ∃ (a_7 : Option Addr), ∃ (l_6 : Nat), ∃ (c_5 : Nat), ∃ (i : Int), Ld Try.prog 46 w1 (Addr.mk b_1 0 none) (Value.agg #[Value.slice a l c, Value.slice a_7 l_6
 c_5, Value.int IntKind.i64 i]) ∧ R (Ending.returned (Value.tuple #[Value.agg #[Value.slice a l c, Value.slice a_7 l_6 c_5, Value.int IntKind.i64 i], Value.bool false])) w1) (inR IntKind.i64 (s + (1 :
 Int)) ∧ next (s + (1 : Int)) w'))))) (∃ i i_13 b_6 i_14 i_15 i_16 s_5 s_6 i_17, Ld Try.prog 30 w1 (Addr.mk b_3 0 none) (Value.agg #[Value.int IntKind.i64 i, Value.int IntKind.i64 i_13,
 Value.bool b_6, Value.int IntKind.i64 i_14, Value.int IntKind.i64 i_15, Value.int IntKind.i64 i_16, Value.string s_5, Value.string s_6, Value.int IntKind.i64 i_17]) ∧ CallV Try.prog 11
 [Value.pointer k, Value.agg #[Value.int IntKind.i64 i, Value.int IntKind.i64 i_13, Value.bool b_6, Value.int IntKind.i64 i_14, Value.int IntKind.i64 i_15, Value.int IntKind.i64 i_16, Value.string s_5,
 Value.string s_6, Value.int IntKind.i64 i_17]] w1 fun e w' ↦ ∃ i, e = Ending.returned (Value.int IntKind.i64 i) ∧ br (!decide (i = i_12)) (∃ a l c a_5 l_4 c_4 i, Ld Try.prog 46 w' (Addr.mk b
 0 none) (Value.agg #[Value.slice a l c, Value.slice a_5 l_4 c_4, Value.int IntKind.i64 i]) ∧ ∃ (w1 : World), St Try.prog 46 w' (Addr.mk b_1 0 none) (Value.agg #[Value.slice a l c,
 Value.slice a_5 l_4 c_4, Value.int IntKind.i64 i]) w1 ∧ ∃ (a : Option Addr), ∃ (l : Nat), ∃ (c : Nat), ∃ (a_6 : Option Addr), ∃ (l_5 : Nat), ∃ (c_5 : Nat), ∃ (i : Int), Ld Try.prog 46 w1
 (Addr.mk b_1 0 none) (Value.agg #[Value.slice a l c, Value.slice a_6 l_5 c_5, Value.int IntKind.i64 i]) ∧ R (Ending.returned (Value.tuple #[Value.agg #[Value.slice a l c, Value.slice a_6 l_5 c_5,
 Value.int IntKind.i64 i], Value.bool false])) w1) (onP k fun a ↦ ∃ p, Ld Try.prog 33 (World.drew w') (Addr.add a 1) (Value.pointer p) ∧ onP k fun a ↦ ∃ p_1, Ld Try.prog 33
 (World.drew w') (Addr.add a 1) (Value.pointer p_1) ∧ CallV Try.prog 45 [Value.pointer p] (World.drew w') fun (e : Ending) (w' : World) ↦ ∃ (a_5 : Option Addr), ∃ l c, e = Ending.returned
 (Value.slice a_5 l c) ∧ Ld Try.prog 33 w' (Addr.add a 1) (Value.pointer p_1) ∧ CallV Try.prog 25 [Value.pointer p_1] w' fun (e : Ending) (w' : World) ↦ ∃ (a : Option Addr), ∃ (l_4
 : Nat), ∃ (c : Nat), e = Ending.returned (Value.slice a l_4 c) ∧ ∃ (i : Int), Ld Try.prog 3 w' (Addr.mk b 2 none) (Value.int IntKind.i64 i) ∧ br (decide (i < (↑l : Int))) (∃ (a : Option
 Addr), ∃ (l : Nat), ∃ (c : Nat), ∃ (a_6 : Option Addr), ∃ (l_5 : Nat), ∃ (c_4 : Nat), ∃ (i : Int), Ld Try.prog 46 w' (Addr.mk b 0 none) (Value.agg #[Value.slice a l c, Value.slice a_6 l_5
 c_4, Value.int IntKind.i64 i]) ∧ ∃ (w1 : World), St Try.prog 46 w' (Addr.mk b_1 0 none) (Value.agg #[Value.slice a l c, Value.slice a_6 l_5 c_4, Value.int IntKind.i64 i]) w1 ∧ ∃ (a : Option
 Addr), ∃ (l : Nat), ∃ (c : Nat), ∃ (a_7 : Option Addr), ∃ (l_6 : Nat), ∃ (c_5 : Nat), ∃ (i : Int), Ld Try.prog 46 w1 (Addr.mk b_1 0 none) (Value.agg #[Value.slice a l c, Value.slice a_7 l_6
 c_5, Value.int IntKind.i64 i]) ∧ R (Ending.returned (Value.tuple #[Value.agg #[Value.slice a l c, Value.slice a_7 l_6 c_5, Value.int IntKind.i64 i], Value.bool false])) w1) (br (decide ((↑l : Int) <
 (↑l_4 : Int))) (∃ (a : Option Addr), ∃ (l : Nat), ∃ (c : Nat), ∃ (a_6 : Option Addr), ∃ (l_5 : Nat), ∃ (c_4 : Nat), ∃ (i : Int), Ld Try.prog 46 w' (Addr.mk b 0 none) (Value.agg #[Value.slice
 a l c, Value.slice a_6 l_5 c_4, Value.int IntKind.i64 i]) ∧ ∃ (w1 : World), St Try.prog 46 w' (Addr.mk b_1 0 none) (Value.agg #[Value.slice a l c, Value.slice a_6 l_5 c_4, Value.int
 IntKind.i64 i]) w1 ∧ ∃ (a : Option Addr), ∃ (l : Nat), ∃ (c : Nat), ∃ (a_7 : Option Addr), ∃ (l_6 : Nat), ∃ (c_5 : Nat), ∃ (i : Int), Ld Try.prog 46 w1 (Addr.mk b_1 0 none) (Value.agg
 #[Value.slice a l c, Value.slice a_7 l_6 c_5, Value.int IntKind.i64 i]) ∧ R (Ending.returned (Value.tuple #[Value.agg #[Value.slice a l c, Value.slice a_7 l_6 c_5, Value.int IntKind.i64 i], Value.bool
 false])) w1) (inR IntKind.i64 (s + (1 : Int)) ∧ next (s + (1 : Int)) w'))))) (∃ i i_13 b_6 i_14 i_15 i_16 s_5 s_6 i_17, Ld Try.prog 30 w1 (Addr.mk b_3 0 none) (Value.agg #[Value.int
 IntKind.i64 i, Value.int IntKind.i64 i_13, Value.bool b_6, Value.int IntKind.i64 i_14, Value.int IntKind.i64 i_15, Value.int IntKind.i64 i_16, Value.string s_5, Value.string s_6, Value.int IntKind.i64
 i_17]) ∧ CallV Try.prog 11 [Value.pointer k, Value.agg #[Value.int IntKind.i64 i, Value.int IntKind.i64 i_13, Value.bool b_6, Value.int IntKind.i64 i_14, Value.int IntKind.i64 i_15,
 Value.int IntKind.i64 i_16, Value.string s_5, Value.string s_6, Value.int IntKind.i64 i_17]] w1 fun e w' ↦ ∃ i, e = Ending.returned (Value.int IntKind.i64 i) ∧ br (!decide (i = i_12)) (∃ a l c a_5 l_4
 c_4 i, Ld Try.prog 46 w' (Addr.mk b 0 none) (Value.agg #[Value.slice a l c, Value.slice a_5 l_4 c_4, Value.int IntKind.i64 i]) ∧ ∃ w1, St Try.prog 46 w' (Addr.mk b_1 0 none)
 (Value.agg #[Value.slice a l c, Value.slice a_5 l_4 c_4, Value.int IntKind.i64 i]) w1 ∧ ∃ (a : Option Addr), ∃ l c, ∃ (a_6 : Option Addr), ∃ (l_5 : Nat), ∃ (c_5 : Nat), ∃ (i : Int), Ld
 Try.prog 46 w1 (Addr.mk b_1 0 none) (Value.agg #[Value.slice a l c, Value.slice a_6 l_5 c_5, Value.int IntKind.i64 i]) ∧ R (Ending.returned (Value.tuple #[Value.agg #[Value.slice a l c,
 Value.slice a_6 l_5 c_5, Value.int IntKind.i64 i], Value.bool false])) w1) (onP k fun a ↦ ∃ p, Ld Try.prog 33 (World.drew w') (Addr.add a 1) (Value.pointer p) ∧ onP k fun a ↦ ∃ p_1, Ld
 Try.prog 33 (World.drew w') (Addr.add a 1) (Value.pointer p_1) ∧ CallV Try.prog 45 [Value.pointer p] (World.drew w') fun (e : Ending) (w' : World) ↦ ∃ a_5 l c, e = Ending.returned
 (Value.slice a_5 l c) ∧ Ld Try.prog 33 w' (Addr.add a 1) (Value.pointer p_1) ∧ CallV Try.prog 25 [Value.pointer p_1] w' fun (e : Ending) (w' : World) ↦ ∃ (a : Option Addr), ∃ (l_4
 : Nat), ∃ (c : Nat), e = Ending.returned (Value.slice a l_4 c) ∧ ∃ (i : Int), Ld Try.prog 3 w' (Addr.mk b 2 none) (Value.int IntKind.i64 i) ∧ br (decide (i < (↑l : Int))) (∃ (a : Option
 Addr), ∃ (l : Nat), ∃ (c : Nat), ∃ (a_6 : Option Addr), ∃ (l_5 : Nat), ∃ (c_4 : Nat), ∃ (i : Int), Ld Try.prog 46 w' (Addr.mk b 0 none) (Value.agg #[Value.slice a l c, Value.slice a_6 l_5
 c_4, Value.int IntKind.i64 i]) ∧ ∃ (w1 : World), St Try.prog 46 w' (Addr.mk b_1 0 none) (Value.agg #[Value.slice a l c, Value.slice a_6 l_5 c_4, Value.int IntKind.i64 i]) w1 ∧ ∃ (a : Option
 Addr), ∃ (l : Nat), ∃ (c : Nat), ∃ (a_7 : Option Addr), ∃ (l_6 : Nat), ∃ (c_5 : Nat), ∃ (i : Int), Ld Try.prog 46 w1 (Addr.mk b_1 0 none) (Value.agg #[Value.slice a l c, Value.slice a_7 l_6
 c_5, Value.int IntKind.i64 i]) ∧ R (Ending.returned (Value.tuple #[Value.agg #[Value.slice a l c, Value.slice a_7 l_6 c_5, Value.int IntKind.i64 i], Value.bool false])) w1) (br (decide ((↑l : Int) <
 (↑l_4 : Int))) (∃ (a : Option Addr), ∃ (l : Nat), ∃ (c : Nat), ∃ (a_6 : Option Addr), ∃ (l_5 : Nat), ∃ (c_4 : Nat), ∃ (i : Int), Ld Try.prog 46 w' (Addr.mk b 0 none) (Value.agg #[Value.slice
 a l c, Value.slice a_6 l_5 c_4, Value.int IntKind.i64 i]) ∧ ∃ (w1 : World), St Try.prog 46 w' (Addr.mk b_1 0 none) (Value.agg #[Value.slice a l c, Value.slice a_6 l_5 c_4, Value.int
 IntKind.i64 i]) w1 ∧ ∃ (a : Option Addr), ∃ (l : Nat), ∃ (c : Nat), ∃ (a_7 : Option Addr), ∃ (l_6 : Nat), ∃ (c_5 : Nat), ∃ (i : Int), Ld Try.prog 46 w1 (Addr.mk b_1 0 none) (Value.agg
 #[Value.slice a l c, Value.slice a_7 l_6 c_5, Value.int IntKind.i64 i]) ∧ R (Ending.returned (Value.tuple #[Value.agg #[Value.slice a l c, Value.slice a_7 l_6 c_5, Value.int IntKind.i64 i], Value.bool
 false])) w1) (inR IntKind.i64 (s + (1 : Int)) ∧ next (s + (1 : Int)) w'))))) (∃ a l c a_1 l_1 c_1 i, Ld Try.prog 46 w' (Addr.mk b 0 none) (Value.agg #[Value.slice a l c, Value.slice a_1 l_1
 c_1, Value.int IntKind.i64 i]) ∧ ∃ w1, St Try.prog 46 w' (Addr.mk b_1 0 none) (Value.agg #[Value.slice a l c, Value.slice a_1 l_1 c_1, Value.int IntKind.i64 i]) w1 ∧ ∃ a l c a_2 l_2 c_2 i,
 Ld Try.prog 46 w1 (Addr.mk b_1 0 none) (Value.agg #[Value.slice a l c, Value.slice a_2 l_2 c_2, Value.int IntKind.i64 i]) ∧ R (Ending.returned (Value.tuple #[Value.agg #[Value.slice a l c,
 Value.slice a_2 l_2 c_2, Value.int IntKind.i64 i], Value.bool true])) w1)) (0 : Int) w1_1
theorem plays.eq (k : Option Addr) (r_Pagesa : Option Addr) (r_Pagesn : Nat) (r_Pagesc : Nat) (r_Pinsa : Option Addr) (r_Pinsn : Nat) (r_Pinsc : Nat) (r_Many : Int) (scripta : Option Addr) (scriptn : Nat) (scriptc : Nat) (w : World) (R : Ending → World → Prop) : bodyV Try.prog plays.an Try.f20 [.pointer k, .agg #[.slice r_Pagesa r_Pagesn r_Pagesc, .slice r_Pinsa r_Pinsn r_Pinsc, .int .i64 r_Many], .slice scripta scriptn scriptc] w R = plays.vc k r_Pagesa r_Pagesn r_Pagesc r_Pinsa r_Pinsn r_Pinsc r_Many scripta scriptn scriptc w R := by kernel_rfl
theorem plays.ok (k : Option Addr) (r_Pagesa : Option Addr) (r_Pagesn : Nat) (r_Pagesc : Nat) (r_Pinsa : Option Addr) (r_Pinsn : Nat) (r_Pinsc : Nat) (r_Many : Int) (scripta : Option Addr) (scriptn : Nat) (scriptc : Nat) (w : World) (R : Ending → World → Prop) (h : plays.vc k r_Pagesa r_Pagesn r_Pagesc r_Pinsa r_Pinsn r_Pinsc r_Many scripta scriptn scriptc w R) : Calls Try.prog 20 #[.pointer k, .agg #[.slice r_Pagesa r_Pagesn r_Pagesc, .slice r_Pinsa r_Pinsn r_Pinsc, .int .i64 r_Many], .slice scripta scriptn scriptc] w R :=
  calls_of_bodyV noNum (an := plays.an) (args := [.pointer k, .agg #[.slice r_Pagesa r_Pagesn r_Pagesc, .slice r_Pinsa r_Pinsn r_Pinsc, .int .i64 r_Many], .slice scripta scriptn scriptc]) Try.func20 (by kernel_rfl) ((plays.eq k r_Pagesa r_Pagesn r_Pagesc r_Pinsa r_Pinsn r_Pinsc r_Many scripta scriptn scriptc w R).mpr h)

/-- incunable/incunablelaw12.same -/
def same.an : An := { wraps := [], loops := [(5, [(28, .inl .i64)])], joins := [], ranges := [] }
def same.vc (x : Option Addr) (r_La : Option Addr) (r_Ln : Nat) (r_Lc : Nat) (r_Stamp : Int) (w : World) (R : Ending → World → Prop) : Prop := ∀ b w1, New w (Obj.cells #[Value.slice r_La r_Ln r_Lc, Value.int IntKind.i64 r_Stamp] 83) b w1 → CallV Try.prog 69 [Value.pointer x] w1 fun e w' ↦ ∃ a l c, e = Ending.returned (Value.slice a
 l c) ∧ ∃ a_1 l_1 c, Ld Try.prog 81 (World.drew w') (Addr.mk b 0 none) (Value.slice a_1 l_1 c) ∧ br (!decide ((↑l : Int) = (↑l_1 : Int))) (R (Ending.returned (Value.bool false)) (World.drew
 w')) (∃ i, Ld Try.prog 3 (World.drew w') (Addr.mk b 1 none) (Value.int IntKind.i64 i) ∧ CallV Try.prog 13 [Value.pointer x] (World.drew w') fun e w' ↦ ∃ i_1, e = Ending.returned
 (Value.int IntKind.i64 i_1) ∧ Ld Try.prog 3 w' (Addr.mk b 1 none) (Value.int IntKind.i64 i) ∧ br (!decide (i_1 = i)) (R (Ending.returned (Value.bool false)) w') (∃ a_2 l_2 c, Ld
 Try.prog 81 w' (Addr.mk b 0 none) (Value.slice a_2 l_2 c) ∧ LoopP (fun (s : Int) (w' : World) (next : Int → World → Prop) ↦ br (decide (s < (↑l_2 : Int))) (onP a_2 fun a_3 ↦ ((0 : Int) ≤ s ∧
 s < (↑l_2 : Int)) ∧ ∃ i s_1, Ld Try.prog 131 w' (Addr.add a_3 (Int.toNat s * 2)) (Value.agg #[Value.int IntKind.i64 i, Value.string s_1]) ∧ ∀ b w1, New w' (Obj.cells #[Value.int IntKind.i64
 0, Value.string (ByteArray.mk #[])] 131) b w1 → ∃ w1_1, St Try.prog 131 w1 (Addr.mk b 0 none) (Value.agg #[Value.int IntKind.i64 i, Value.string s_1]) w1_1 ∧ ∃ i, Ld Try.prog 3
 w1_1 (Addr.mk b 0 none) (Value.int IntKind.i64 i) ∧ CallV Try.prog 70 [Value.pointer x, Value.int IntKind.i64 i] w1_1 fun e w' ↦ ∃ s_2 b_1, e = Ending.returned (Value.tuple #[Value.string
 s_2, Value.bool b_1]) ∧ onP a fun a ↦ ((0 : Int) ≤ s ∧ s < (↑l : Int)) ∧ ∃ i, Ld Try.prog 3 (World.drew w') (Addr.add a (Int.toNat s * 1)) (Value.int IntKind.i64 i) ∧ ∃ i_2, Ld
 Try.prog 3 (World.drew w') (Addr.mk b 0 none) (Value.int IntKind.i64 i_2) ∧ br (!decide (i = i_2)) (R (Ending.returned (Value.bool false)) (World.drew w')) (∃ s_3, Ld Try.prog 9
 (World.drew w') (Addr.mk b 1 none) (Value.string s_3) ∧ br (!decide (s_2 = s_3)) (R (Ending.returned (Value.bool false)) (World.drew w')) (inR IntKind.i64 (s + (1 : Int)) ∧ next (s + (1 : Int))
 (World.drew w')))) (R (Ending.returned (Value.bool true)) w')) (0 : Int) w'))
theorem same.eq (x : Option Addr) (r_La : Option Addr) (r_Ln : Nat) (r_Lc : Nat) (r_Stamp : Int) (w : World) (R : Ending → World → Prop) : bodyV Try.prog same.an Try.f44 [.pointer x, .agg #[.slice r_La r_Ln r_Lc, .int .i64 r_Stamp]] w R = same.vc x r_La r_Ln r_Lc r_Stamp w R := by kernel_rfl
theorem same.ok (x : Option Addr) (r_La : Option Addr) (r_Ln : Nat) (r_Lc : Nat) (r_Stamp : Int) (w : World) (R : Ending → World → Prop) (h : same.vc x r_La r_Ln r_Lc r_Stamp w R) : Calls Try.prog 44 #[.pointer x, .agg #[.slice r_La r_Ln r_Lc, .int .i64 r_Stamp]] w R :=
  calls_of_bodyV noNum (an := same.an) (args := [.pointer x, .agg #[.slice r_La r_Ln r_Lc, .int .i64 r_Stamp]]) Try.func44 (by kernel_rfl) ((same.eq x r_La r_Ln r_Lc r_Stamp w R).mpr h)

/-- (*incunable/incunablelaw12.desk).stands -/
def stands.an : An := { wraps := [], loops := [(2, [(8, .inl .i64)])], joins := [], ranges := [] }
def stands.vc (k : Option Addr) (r_Pagesa : Option Addr) (r_Pagesn : Nat) (r_Pagesc : Nat) (r_Pinsa : Option Addr) (r_Pinsn : Nat) (r_Pinsc : Nat) (r_Many : Int) (w : World) (R : Ending → World → Prop) : Prop := ∀ b w1, New w (Obj.cells #[Value.slice r_Pagesa r_Pagesn r_Pagesc, Value.slice r_Pinsa r_Pinsn r_Pinsc, Value.int IntKind.i64 r_Many] 46) b w1 → LoopP (fun (s : Int) (w' : World) (next : Int → World →
 Prop) ↦ br (decide (s < (12 : Int))) (∃ a l c, Ld Try.prog 34 w' (Addr.mk b 1 none) (Value.slice a l c) ∧ onP a fun a ↦ ((0 : Int) ≤ s ∧ s < (↑l : Int)) ∧ ∃ i, Ld Try.prog 3 w'
 (Addr.add a (Int.toNat s * 1)) (Value.int IntKind.i64 i) ∧ br (decide ((0 : Int) < i)) (inR IntKind.i64 (s + (1 : Int)) ∧ next (s + (1 : Int)) w') (onP k fun a ↦ ∃ p, Ld Try.prog 33 w'
 (Addr.add a 1) (Value.pointer p) ∧ CallV Try.prog 22 [Value.pointer p, Value.int IntKind.i64 s] w' fun e w' ↦ ∃ p i, e = Ending.returned (Value.tuple #[Value.pointer p, Value.int IntKind.i64
 i]) ∧ br (decide (i = (120 : Int))) (inR IntKind.i64 (s + (1 : Int)) ∧ next (s + (1 : Int)) w') (br (!decide (i = (0 : Int))) (R (Ending.returned (Value.bool false)) w') (∃ b_1, Eqv Try.prog
 BinOp.eql 31 (Operand.tmp 31) (Operand.const (Value.pointer none)) w' (Value.pointer p) (Value.pointer none) b_1 ∧ br b_1 (R (Ending.returned (Value.bool false)) w') (∃ a l c, Ld Try.prog 44
 w' (Addr.mk b 0 none) (Value.slice a l c) ∧ onP a fun a ↦ ((0 : Int) ≤ s ∧ s < (↑l : Int)) ∧ ∃ a_1 l c i, Ld Try.prog 83 w' (Addr.add a (Int.toNat s * 2)) (Value.agg #[Value.slice a_1 l c,
 Value.int IntKind.i64 i]) ∧ CallV Try.prog 44 [Value.pointer p, Value.agg #[Value.slice a_1 l c, Value.int IntKind.i64 i]] w' fun e w' ↦ ∃ b, e = Ending.returned (Value.bool b) ∧ br (!b) (R
 (Ending.returned (Value.bool false)) w') (onP k fun a ↦ ∃ p, Ld Try.prog 33 w' (Addr.add a 1) (Value.pointer p) ∧ CallV Try.prog 24 [Value.pointer p, Value.int IntKind.i64 s,
 Value.bool false] w' fun e w' ↦ ∃ b, e = Ending.returned (Value.bool b) ∧ br (!b) (R (Ending.returned (Value.bool false)) w') (inR IntKind.i64 (s + (1 : Int)) ∧ next (s + (1 : Int)) w'))))))) (R
 (Ending.returned (Value.bool true)) w')) (0 : Int) w1
theorem stands.eq (k : Option Addr) (r_Pagesa : Option Addr) (r_Pagesn : Nat) (r_Pagesc : Nat) (r_Pinsa : Option Addr) (r_Pinsn : Nat) (r_Pinsc : Nat) (r_Many : Int) (w : World) (R : Ending → World → Prop) : bodyV Try.prog stands.an Try.f19 [.pointer k, .agg #[.slice r_Pagesa r_Pagesn r_Pagesc, .slice r_Pinsa r_Pinsn r_Pinsc, .int .i64 r_Many]] w R = stands.vc k r_Pagesa r_Pagesn r_Pagesc r_Pinsa r_Pinsn r_Pinsc r_Many w R := by kernel_rfl
theorem stands.ok (k : Option Addr) (r_Pagesa : Option Addr) (r_Pagesn : Nat) (r_Pagesc : Nat) (r_Pinsa : Option Addr) (r_Pinsn : Nat) (r_Pinsc : Nat) (r_Many : Int) (w : World) (R : Ending → World → Prop) (h : stands.vc k r_Pagesa r_Pagesn r_Pagesc r_Pinsa r_Pinsn r_Pinsc r_Many w R) : Calls Try.prog 19 #[.pointer k, .agg #[.slice r_Pagesa r_Pagesn r_Pagesc, .slice r_Pinsa r_Pinsn r_Pinsc, .int .i64 r_Many]] w R :=
  calls_of_bodyV noNum (an := stands.an) (args := [.pointer k, .agg #[.slice r_Pagesa r_Pagesn r_Pagesc, .slice r_Pinsa r_Pinsn r_Pinsc, .int .i64 r_Many]]) Try.func19 (by kernel_rfl) ((stands.eq k r_Pagesa r_Pagesn r_Pagesc r_Pinsa r_Pinsn r_Pinsc r_Many w R).mpr h)

/-- (*incunable/incunablelaw12.desk).onDisk -/
def onDisk.an : An := { wraps := [], loops := [(3, [(6, .inr 3), (12, .inl .i64)])], joins := [], ranges := [] }
def onDisk.vc (k : Option Addr) (n : Int) (w : World) (R : Ending → World → Prop) : Prop := LoopP (fun (s : (Option Addr × Nat × Nat) × Int) (w' : World) (next : (Option Addr × Nat × Nat) × Int → World → Prop) ↦ br (decide (Prod.snd s < (8 : Int))) (onP k fun a ↦ ∃ p, Ld Try.prog 32
 w' a (Value.pointer p) ∧ inR IntKind.i64 ((8 : Int) * n) ∧ inR IntKind.i64 ((8 : Int) * n + Prod.snd s) ∧ CallV Try.prog 33 [Value.pointer p, Value.string (ByteArray.mk #[(100 : UInt8), (97
 : UInt8), (116 : UInt8), (97 : UInt8)]), Value.int IntKind.i64 ((8 : Int) * n + Prod.snd s)] w' fun e w' ↦ ∃ a l c i, e = Ending.returned (Value.tuple #[Value.slice a l c, Value.int IntKind.i64 i]) ∧
 br (!decide (i = (0 : Int))) (R (Ending.returned (Value.tuple #[Value.pointer none, Value.bool false])) w') (∃ a_1 n m w1, App Try.prog #[70, 70] 70 w' (Value.slice (Prod.fst (Prod.fst s))
 (Prod.fst (Prod.snd (Prod.fst s))) (Prod.snd (Prod.snd (Prod.fst s)))) (Value.slice a l c) (Value.slice a_1 n m) w1 ∧ inR IntKind.i64 (Prod.snd s + (1 : Int)) ∧ next ((a_1, n, m), Prod.snd s + (1 :
 Int)) w1)) (CallV Try.prog 34 [Value.slice (Prod.fst (Prod.fst s)) (Prod.fst (Prod.snd (Prod.fst s))) (Prod.snd (Prod.snd (Prod.fst s)))] w' fun e w' ↦ ∃ p i, e = Ending.returned
 (Value.tuple #[Value.pointer p, Value.int IntKind.i64 i]) ∧ R (Ending.returned (Value.tuple #[Value.pointer p, Value.bool (decide (i = (0 : Int)))])) w')) ((none, 0, 0), (0 : Int)) w
theorem onDisk.eq (k : Option Addr) (n : Int) (w : World) (R : Ending → World → Prop) : bodyV Try.prog onDisk.an Try.f12 [.pointer k, .int .i64 n] w R = onDisk.vc k n w R := by kernel_rfl
theorem onDisk.ok (k : Option Addr) (n : Int) (w : World) (R : Ending → World → Prop) (h : onDisk.vc k n w R) : Calls Try.prog 12 #[.pointer k, .int .i64 n] w R :=
  calls_of_bodyV noNum (an := onDisk.an) (args := [.pointer k, .int .i64 n]) Try.func12 (by kernel_rfl) ((onDisk.eq k n w R).mpr h)

/-- incunable/incunablelaw12.FramesAhead -/
def framesAhead.an : An := { wraps := [], loops := [(7, [(32, .inl .i64)]), (14, [(81, .inl .i64)]), (19, [(11, .inr 0), (102, .inl .i64)])], joins := [(2, [(24, .inr 0)])], ranges := [] }
def framesAhead.vc (many : Int) (scripta : Option Addr) (scriptn : Nat) (scriptc : Nat) (w : World) (R : Ending → World → Prop) : Prop := JoinP (fun s w' ↦ br s (CallV Try.prog 9 [] w' fun e w' ↦ ∃ b, e = Ending.returned (Value.bool b) ∧ R (Ending.returned (Value.bool b)) w') (CallV Try.prog 10 [Value.int IntKind.i64
 many] w' fun e w' ↦ ∃ p, e = Ending.returned (Value.pointer p) ∧ ∃ b, Eqv Try.prog BinOp.eql 25 (Operand.tmp 28) (Operand.const (Value.pointer none)) w' (Value.pointer p) (Value.pointer
 none) b ∧ br b (R (Ending.returned (Value.bool false)) w') (LoopP (fun (s : Int) (w' : World) (next : Int → World → Prop) ↦ br (decide (s < (↑scriptn : Int))) (onP scripta fun a ↦ ((0 : Int) ≤ s ∧ s <
 (↑scriptn : Int)) ∧ ∃ i i_1 b i_2 i_3 i_4 s_1 s_2 i_5, Ld Try.prog 30 w' (Addr.add a (Int.toNat s * 9)) (Value.agg #[Value.int IntKind.i64 i, Value.int IntKind.i64 i_1, Value.bool b,
 Value.int IntKind.i64 i_2, Value.int IntKind.i64 i_3, Value.int IntKind.i64 i_4, Value.string s_1, Value.string s_2, Value.int IntKind.i64 i_5]) ∧ ∀ b_1 w1, New w' (Obj.cells #[Value.int IntKind.i64
 0, Value.int IntKind.i64 0, Value.bool false, Value.int IntKind.i64 0, Value.int IntKind.i64 0, Value.int IntKind.i64 0, Value.string (ByteArray.mk #[]), Value.string (ByteArray.mk #[]), Value.int
 IntKind.i64 0] 30) b_1 w1 → ∃ w1_1, St Try.prog 30 w1 (Addr.mk b_1 0 none) (Value.agg #[Value.int IntKind.i64 i, Value.int IntKind.i64 i_1, Value.bool b, Value.int IntKind.i64 i_2, Value.int
 IntKind.i64 i_3, Value.int IntKind.i64 i_4, Value.string s_1, Value.string s_2, Value.int IntKind.i64 i_5]) w1_1 ∧ ∃ i, Ld Try.prog 3 (World.drew w1_1) (Addr.mk b_1 0 none) (Value.int
 IntKind.i64 i) ∧ br (decide (i = (2 : Int))) (∃ i, Ld Try.prog 3 (World.drew w1_1) (Addr.mk b_1 1 none) (Value.int IntKind.i64 i) ∧ br (decide (i < (0 : Int))) (inR IntKind.i64 (s + (1 :
 Int)) ∧ next (s + (1 : Int)) (World.drew w1_1)) (∃ i, Ld Try.prog 3 (World.drew w1_1) (Addr.mk b_1 1 none) (Value.int IntKind.i64 i) ∧ br (decide ((12 : Int) ≤ i)) (inR IntKind.i64 (s + (1 :
 Int)) ∧ next (s + (1 : Int)) (World.drew w1_1)) (∃ i, Ld Try.prog 3 (World.drew w1_1) (Addr.mk b_1 1 none) (Value.int IntKind.i64 i) ∧ onP p fun a ↦ ((0 : Int) ≤ i ∧ i < (↑(12 : Nat) : Int))
 ∧ ∃ p_1, Ld Try.prog 31 (World.drew w1_1) (Addr.add (Addr.add a 4) (Int.toNat i * 1)) (Value.pointer p_1) ∧ ∃ b, Eqv Try.prog BinOp.eql 31 (Operand.tmp 55) (Operand.const
 (Value.pointer none)) (World.drew w1_1) (Value.pointer p_1) (Value.pointer none) b ∧ br b (inR IntKind.i64 (s + (1 : Int)) ∧ next (s + (1 : Int)) (World.drew w1_1)) (∃ i i_6 b i_7 i_8 i_9 s_3 s_4
 i_10, Ld Try.prog 30 (World.drew w1_1) (Addr.mk b_1 0 none) (Value.agg #[Value.int IntKind.i64 i, Value.int IntKind.i64 i_6, Value.bool b, Value.int IntKind.i64 i_7, Value.int IntKind.i64
 i_8, Value.int IntKind.i64 i_9, Value.string s_3, Value.string s_4, Value.int IntKind.i64 i_10]) ∧ CallV Try.prog 11 [Value.pointer p, Value.agg #[Value.int IntKind.i64 i, Value.int
 IntKind.i64 i_6, Value.bool b, Value.int IntKind.i64 i_7, Value.int IntKind.i64 i_8, Value.int IntKind.i64 i_9, Value.string s_3, Value.string s_4, Value.int IntKind.i64 i_10]] (World.drew w1_1) fun e
 w' ↦ ∃ i, e = Ending.returned (Value.int IntKind.i64 i) ∧ ∃ i, Ld Try.prog 3 w' (Addr.mk b_1 0 none) (Value.int IntKind.i64 i) ∧ br (decide (i = (1 : Int))) (∃ i, Ld Try.prog 3 w'
 (Addr.mk b_1 1 none) (Value.int IntKind.i64 i) ∧ br (decide ((0 : Int) ≤ i)) (∃ i, Ld Try.prog 3 w' (Addr.mk b_1 1 none) (Value.int IntKind.i64 i) ∧ br (decide (i < (12 : Int))) (∃ i, Ld
 Try.prog 3 (World.drew w') (Addr.mk b_1 1 none) (Value.int IntKind.i64 i) ∧ onP p fun a ↦ ((0 : Int) ≤ i ∧ i < (↑(12 : Nat) : Int)) ∧ ∃ w1, St Try.prog 31 (World.drew w') (Addr.add
 (Addr.add a 4) (Int.toNat i * 1)) (Value.pointer none) w1 ∧ LoopP (fun (s_5 : Int) (w' : World) (next_1 : Int → World → Prop) ↦ br (decide (s_5 < (12 : Int))) (CallV Try.prog 12
 [Value.pointer p, Value.int IntKind.i64 s_5] w' fun e w' ↦ ∃ p_2 b, e = Ending.returned (Value.tuple #[Value.pointer p_2, Value.bool b]) ∧ br (!b) (onP p fun a ↦ ∃ a_1 l c, Ld Try.prog 34 w'
 (Addr.add a 2) (Value.slice a_1 l c) ∧ LoopP (fun (s : Bool × Int) (w' : World) (next : Bool × Int → World → Prop) ↦ br (decide (Prod.snd s < (↑l : Int))) (onP a_1 fun a ↦ ((0 : Int) ≤ Prod.snd s ∧
 Prod.snd s < (↑l : Int)) ∧ ∃ i, Ld Try.prog 3 w' (Addr.add a (Int.toNat (Prod.snd s) * 1)) (Value.int IntKind.i64 i) ∧ br (Prod.fst s) (inR IntKind.i64 (Prod.snd s + (1 : Int)) ∧ next (true,
 Prod.snd s + (1 : Int)) w') (CallV Try.prog 13 [Value.pointer p_2] w' fun (e : Ending) (w' : World) ↦ ∃ (i_11 : Int), e = Ending.returned (Value.int IntKind.i64 i_11) ∧ inR IntKind.i64
 (Prod.snd s + (1 : Int)) ∧ next (decide (i = i_11), Prod.snd s + (1 : Int)) w')) (br (!Prod.fst s) (R (Ending.returned (Value.bool false)) w') (inR IntKind.i64 (s_5 + (1 : Int)) ∧ next_1 (s_5 + (1 :
 Int)) w'))) (true, (0 : Int)) w') (CallV Try.prog 13 [Value.pointer p_2] w' fun e w' ↦ ∃ i, e = Ending.returned (Value.int IntKind.i64 i) ∧ onP p fun a ↦ ∃ a_1 l c, Ld Try.prog 34
 w' (Addr.add a 2) (Value.slice a_1 l c) ∧ LoopP (fun (s : Bool × Int) (w' : World) (next : Bool × Int → World → Prop) ↦ br (decide (Prod.snd s < (↑l : Int))) (onP a_1 fun (a : Addr) ↦ ((0 : Int) ≤
 Prod.snd s ∧ Prod.snd s < (↑l : Int)) ∧ ∃ (i : Int), Ld Try.prog 3 w' (Addr.add a (Int.toNat (Prod.snd s) * 1)) (Value.int IntKind.i64 i) ∧ br (Prod.fst s) (inR IntKind.i64 (Prod.snd s + (1
 : Int)) ∧ next (true, Prod.snd s + (1 : Int)) w') (CallV Try.prog 13 [Value.pointer p_2] w' fun (e : Ending) (w' : World) ↦ ∃ (i_11 : Int), e = Ending.returned (Value.int IntKind.i64 i_11) ∧
 inR IntKind.i64 (Prod.snd s + (1 : Int)) ∧ next (decide (i = i_11), Prod.snd s + (1 : Int)) w')) (br (!Prod.fst s) (R (Ending.returned (Value.bool false)) w') (inR IntKind.i64 (s_5 + (1 : Int)) ∧
 next_1 (s_5 + (1 : Int)) w'))) (decide (i = (0 : Int)), (0 : Int)) w')) (inR IntKind.i64 (s + (1 : Int)) ∧ next (s + (1 : Int)) w')) (0 : Int) w1) (LoopP (fun (s_5 : Int) (w' : World) (next_1 : Int →
 World → Prop) ↦ br (decide (s_5 < (12 : Int))) (CallV Try.prog 12 [Value.pointer p, Value.int IntKind.i64 s_5] w' fun e w' ↦ ∃ p_2 b, e = Ending.returned (Value.tuple #[Value.pointer p_2,
 Value.bool b]) ∧ br (!b) (onP p fun a ↦ ∃ a_1 l c, Ld Try.prog 34 w' (Addr.add a 2) (Value.slice a_1 l c) ∧ LoopP (fun (s : Bool × Int) (w' : World) (next : Bool × Int → World → Prop) ↦ br
 (decide (Prod.snd s < (↑l : Int))) (onP a_1 fun a ↦ ((0 : Int) ≤ Prod.snd s ∧ Prod.snd s < (↑l : Int)) ∧ ∃ i, Ld Try.prog 3 w' (Addr.add a (Int.toNat (Prod.snd s) * 1)) (Value.int
 IntKind.i64 i) ∧ br (Prod.fst s) (inR IntKind.i64 (Prod.snd s + (1 : Int)) ∧ next (true, Prod.snd s + (1 : Int)) w') (CallV Try.prog 13 [Value.pointer p_2] w' fun (e : Ending) (w' : World) ↦
 ∃ i_11, e = Ending.returned (Value.int IntKind.i64 i_11) ∧ inR IntKind.i64 (Prod.snd s + (1 : Int)) ∧ next (decide (i = i_11), Prod.snd s + (1 : Int)) w')) (br (!Prod.fst s) (R (Ending.returned
 (Value.bool false)) w') (inR IntKind.i64 (s_5 + (1 : Int)) ∧ next_1 (s_5 + (1 : Int)) w'))) (true, (0 : Int)) w') (CallV Try.prog 13 [Value.pointer p_2] w' fun e w' ↦ ∃ i, e =
 Ending.returned (Value.int IntKind.i64 i) ∧ onP p fun a ↦ ∃ a_1 l c, Ld Try.prog 34 w' (Addr.add a 2) (Value.slice a_1 l c) ∧ LoopP (fun (s : Bool × Int) (w' : World) (next : Bool × Int →
 World → Prop) ↦ br (decide (Prod.snd s < (↑l : Int))) (onP a_1 fun a ↦ ((0 : Int) ≤ Prod.snd s ∧ Prod.snd s < (↑l : Int)) ∧ ∃ i, Ld Try.prog 3 w' (Addr.add a (Int.toNat (Prod.snd s) * 1))
 (Value.int IntKind.i64 i) ∧ br (Prod.fst s) (inR IntKind.i64 (Prod.snd s + (1 : Int)) ∧ next (true, Prod.snd s + (1 : Int)) w') (CallV Try.prog 13 [Value.pointer p_2] w' fun (e : Ending) (w'
 : World) ↦ ∃ (i_11 : Int), e = Ending.returned (Value.int IntKind.i64 i_11) ∧ inR IntKind.i64 (Prod.snd s + (1 : Int)) ∧ next (decide (i = i_11), Prod.snd s + (1 : Int)) w')) (br (!Prod.fst s) (R
 (Ending.returned (Value.bool false)) w') (inR IntKind.i64 (s_5 + (1 : Int)) ∧ next_1 (s_5 + (1 : Int)) w'))) (decide (i = (0 : Int)), (0 : Int)) w')) (inR IntKind.i64 (s + (1 : Int)) ∧ next (s + (1 :
 Int)) w')) (0 : Int) w')) (LoopP (fun (s_5 : Int) (w' : World) (next_1 : Int → World → Prop) ↦ br (decide (s_5 < (12 : Int))) (CallV Try.prog 12 [Value.pointer p, Value.int IntKind.i64 s_5]
 w' fun e w' ↦ ∃ p_2 b, e = Ending.returned (Value.tuple #[Value.pointer p_2, Value.bool b]) ∧ br (!b) (onP p fun a ↦ ∃ a_1 l c, Ld Try.prog 34 w' (Addr.add a 2) (Value.slice a_1 l c) ∧ LoopP
 (fun (s : Bool × Int) (w' : World) (next : Bool × Int → World → Prop) ↦ br (decide (Prod.snd s < (↑l : Int))) (onP a_1 fun a ↦ ((0 : Int) ≤ Prod.snd s ∧ Prod.snd s < (↑l : Int)) ∧ ∃ i, Ld
 Try.prog 3 w' (Addr.add a (Int.toNat (Prod.snd s) * 1)) (Value.int IntKind.i64 i) ∧ br (Prod.fst s) (inR IntKind.i64 (Prod.snd s + (1 : Int)) ∧ next (true, Prod.snd s + (1 : Int)) w') (CallV
 Try.prog 13 [Value.pointer p_2] w' fun (e : Ending) (w' : World) ↦ ∃ i_11, e = Ending.returned (Value.int IntKind.i64 i_11) ∧ inR IntKind.i64 (Prod.snd s + (1 : Int)) ∧ next (decide (i =
 i_11), Prod.snd s + (1 : Int)) w')) (br (!Prod.fst s) (R (Ending.returned (Value.bool false)) w') (inR IntKind.i64 (s_5 + (1 : Int)) ∧ next_1 (s_5 + (1 : Int)) w'))) (true, (0 : Int)) w') (CallV
 Try.prog 13 [Value.pointer p_2] w' fun e w' ↦ ∃ i, e = Ending.returned (Value.int IntKind.i64 i) ∧ onP p fun a ↦ ∃ a_1 l c, Ld Try.prog 34 w' (Addr.add a 2) (Value.slice a_1 l c) ∧
 LoopP (fun (s : Bool × Int) (w' : World) (next : Bool × Int → World → Prop) ↦ br (decide (Prod.snd s < (↑l : Int))) (onP a_1 fun a ↦ ((0 : Int) ≤ Prod.snd s ∧ Prod.snd s < (↑l : Int)) ∧ ∃ i, Ld
 Try.prog 3 w' (Addr.add a (Int.toNat (Prod.snd s) * 1)) (Value.int IntKind.i64 i) ∧ br (Prod.fst s) (inR IntKind.i64 (Prod.snd s + (1 : Int)) ∧ next (true, Prod.snd s + (1 : Int)) w') (CallV
 Try.prog 13 [Value.pointer p_2] w' fun (e : Ending) (w' : World) ↦ ∃ i_11, e = Ending.returned (Value.int IntKind.i64 i_11) ∧ inR IntKind.i64 (Prod.snd s + (1 : Int)) ∧ next (decide (i =
 i_11), Prod.snd s + (1 : Int)) w')) (br (!Prod.fst s) (R (Ending.returned (Value.bool false)) w') (inR IntKind.i64 (s_5 + (1 : Int)) ∧ next_1 (s_5 + (1 : Int)) w'))) (decide (i = (0 : Int)), (0 :
 Int)) w')) (inR IntKind.i64 (s + (1 : Int)) ∧ next (s + (1 : Int)) w')) (0 : Int) w')) (LoopP (fun (s_5 : Int) (w' : World) (next_1 : Int → World → Prop) ↦ br (decide (s_5 < (12 : Int))) (CallV
 Try.prog 12 [Value.pointer p, Value.int IntKind.i64 s_5] w' fun e w' ↦ ∃ p_2 b, e = Ending.returned (Value.tuple #[Value.pointer p_2, Value.bool b]) ∧ br (!b) (onP p fun a ↦ ∃ a_1 l c, Ld
 Try.prog 34 w' (Addr.add a 2) (Value.slice a_1 l c) ∧ LoopP (fun (s : Bool × Int) (w' : World) (next : Bool × Int → World → Prop) ↦ br (decide (Prod.snd s < (↑l : Int))) (onP a_1 fun a ↦ ((0
 : Int) ≤ Prod.snd s ∧ Prod.snd s < (↑l : Int)) ∧ ∃ i, Ld Try.prog 3 w' (Addr.add a (Int.toNat (Prod.snd s) * 1)) (Value.int IntKind.i64 i) ∧ br (Prod.fst s) (inR IntKind.i64 (Prod.snd s + (1
 : Int)) ∧ next (true, Prod.snd s + (1 : Int)) w') (CallV Try.prog 13 [Value.pointer p_2] w' fun e w' ↦ ∃ i_11, e = Ending.returned (Value.int IntKind.i64 i_11) ∧ inR IntKind.i64 (Prod.snd s
 + (1 : Int)) ∧ next (decide (i = i_11), Prod.snd s + (1 : Int)) w')) (br (!Prod.fst s) (R (Ending.returned (Value.bool false)) w') (inR IntKind.i64 (s_5 + (1 : Int)) ∧ next_1 (s_5 + (1 : Int)) w')))
 (true, (0 : Int)) w') (CallV Try.prog 13 [Value.pointer p_2] w' fun e w' ↦ ∃ i, e = Ending.returned (Value.int IntKind.i64 i) ∧ onP p fun a ↦ ∃ a_1 l c, Ld Try.prog 34 w' (Addr.add
 a 2) (Value.slice a_1 l c) ∧ LoopP (fun (s : Bool × Int) (w' : World) (next : Bool × Int → World → Prop) ↦ br (decide (Prod.snd s < (↑l : Int))) (onP a_1 fun a ↦ ((0 : Int) ≤ Prod.snd s ∧ Prod.snd s <
 (↑l : Int)) ∧ ∃ i, Ld Try.prog 3 w' (Addr.add a (Int.toNat (Prod.snd s) * 1)) (Value.int IntKind.i64 i) ∧ br (Prod.fst s) (inR IntKind.i64 (Prod.snd s + (1 : Int)) ∧ next (true, Prod.snd s +
 (1 : Int)) w') (CallV Try.prog 13 [Value.pointer p_2] w' fun (e : Ending) (w' : World) ↦ ∃ i_11, e = Ending.returned (Value.int IntKind.i64 i_11) ∧ inR IntKind.i64 (Prod.snd s + (1 : Int)) ∧
 next (decide (i = i_11), Prod.snd s + (1 : Int)) w')) (br (!Prod.fst s) (R (Ending.returned (Value.bool false)) w') (inR IntKind.i64 (s_5 + (1 : Int)) ∧ next_1 (s_5 + (1 : Int)) w'))) (decide (i = (0
 : Int)), (0 : Int)) w')) (inR IntKind.i64 (s + (1 : Int)) ∧ next (s + (1 : Int)) w')) (0 : Int) w'))))) (∃ i i_6 b i_7 i_8 i_9 s_3 s_4 i_10, Ld Try.prog 30 (World.drew w1_1) (Addr.mk b_1 0
 none) (Value.agg #[Value.int IntKind.i64 i, Value.int IntKind.i64 i_6, Value.bool b, Value.int IntKind.i64 i_7, Value.int IntKind.i64 i_8, Value.int IntKind.i64 i_9, Value.string s_3, Value.string
 s_4, Value.int IntKind.i64 i_10]) ∧ CallV Try.prog 11 [Value.pointer p, Value.agg #[Value.int IntKind.i64 i, Value.int IntKind.i64 i_6, Value.bool b, Value.int IntKind.i64 i_7, Value.int
 IntKind.i64 i_8, Value.int IntKind.i64 i_9, Value.string s_3, Value.string s_4, Value.int IntKind.i64 i_10]] (World.drew w1_1) fun e w' ↦ ∃ i, e = Ending.returned (Value.int IntKind.i64 i) ∧ ∃ i, Ld
 Try.prog 3 w' (Addr.mk b_1 0 none) (Value.int IntKind.i64 i) ∧ br (decide (i = (1 : Int))) (∃ i, Ld Try.prog 3 w' (Addr.mk b_1 1 none) (Value.int IntKind.i64 i) ∧ br (decide ((0 :
 Int) ≤ i)) (∃ i, Ld Try.prog 3 w' (Addr.mk b_1 1 none) (Value.int IntKind.i64 i) ∧ br (decide (i < (12 : Int))) (∃ i, Ld Try.prog 3 (World.drew w') (Addr.mk b_1 1 none) (Value.int
 IntKind.i64 i) ∧ onP p fun a ↦ ((0 : Int) ≤ i ∧ i < (↑(12 : Nat) : Int)) ∧ ∃ w1, St Try.prog 31 (World.drew w') (Addr.add (Addr.add a 4) (Int.toNat i * 1)) (Value.pointer none) w1 ∧ LoopP
 (fun (s_5 : Int) (w' : World) (next_1 : Int → World → Prop) ↦ br (decide (s_5 < (12 : Int))) (CallV Try.prog 12 [Value.pointer p, Value.int IntKind.i64 s_5] w' fun e w' ↦ ∃ p_1 b, e =
 Ending.returned (Value.tuple #[Value.pointer p_1, Value.bool b]) ∧ br (!b) (onP p fun a ↦ ∃ a_1 l c, Ld Try.prog 34 w' (Addr.add a 2) (Value.slice a_1 l c) ∧ LoopP (fun (s : Bool × Int) (w'
 : World) (next : Bool × Int → World → Prop) ↦ br (decide (Prod.snd s < (↑l : Int))) (onP a_1 fun a ↦ ((0 : Int) ≤ Prod.snd s ∧ Prod.snd s < (↑l : Int)) ∧ ∃ i, Ld Try.prog 3 w' (Addr.add a
 (Int.toNat (Prod.snd s) * 1)) (Value.int IntKind.i64 i) ∧ br (Prod.fst s) (inR IntKind.i64 (Prod.snd s + (1 : Int)) ∧ next (true, Prod.snd s + (1 : Int)) w') (CallV Try.prog 13
 [Value.pointer p_1] w' fun e w' ↦ ∃ i_11, e = Ending.returned (Value.int IntKind.i64 i_11) ∧ inR IntKind.i64 (Prod.snd s + (1 : Int)) ∧ next (decide (i = i_11), Prod.snd s + (1 : Int)) w')) (br
 (!Prod.fst s) (R (Ending.returned (Value.bool false)) w') (inR IntKind.i64 (s_5 + (1 : Int)) ∧ next_1 (s_5 + (1 : Int)) w'))) (true, (0 : Int)) w') (CallV Try.prog 13 [Value.pointer p_1] w'
 fun e w' ↦ ∃ i, e = Ending.returned (Value.int IntKind.i64 i) ∧ onP p fun a ↦ ∃ a_1 l c, Ld Try.prog 34 w' (Addr.add a 2) (Value.slice a_1 l c) ∧ LoopP (fun (s : Bool × Int) (w' : World)
 (next : Bool × Int → World → Prop) ↦ br (decide (Prod.snd s < (↑l : Int))) (onP a_1 fun a ↦ ((0 : Int) ≤ Prod.snd s ∧ Prod.snd s < (↑l : Int)) ∧ ∃ i, Ld Try.prog 3 w' (Addr.add a (Int.toNat
 (Prod.snd s) * 1)) (Value.int IntKind.i64 i) ∧ br (Prod.fst s) (inR IntKind.i64 (Prod.snd s + (1 : Int)) ∧ next (true, Prod.snd s + (1 : Int)) w') (CallV Try.prog 13 [Value.pointer p_1] w'
 fun e w' ↦ ∃ i_11, e = Ending.returned (Value.int IntKind.i64 i_11) ∧ inR IntKind.i64 (Prod.snd s + (1 : Int)) ∧ next (decide (i = i_11), Prod.snd s + (1 : Int)) w')) (br (!Prod.fst s) (R
 (Ending.returned (Value.bool false)) w') (inR IntKind.i64 (s_5 + (1 : Int)) ∧ next_1 (s_5 + (1 : Int)) w'))) (decide (i = (0 : Int)), (0 : Int)) w')) (inR IntKind.i64 (s + (1 : Int)) ∧ next (s + (1 :
 Int)) w')) (0 : Int) w1) (LoopP (fun (s_5 : Int) (w' : World) (next_1 : Int → World → Prop) ↦ br (decide (s_5 < (12 : Int))) (CallV Try.prog 12 [Value.pointer p, Value.int IntKind.i64 s_5]
 w' fun e w' ↦ ∃ p_1 b, e = Ending.returned (Value.tuple #[Value.pointer p_1, Value.bool b]) ∧ br (!b) (onP p fun a ↦ ∃ a_1 l c, Ld Try.prog 34 w' (Addr.add a 2) (Value.slice a_1 l c) ∧ LoopP
 (fun (s : Bool × Int) (w' : World) (next : Bool × Int → World → Prop) ↦ br (decide (Prod.snd s < (↑l : Int))) (onP a_1 fun a ↦ ((0 : Int) ≤ Prod.snd s ∧ Prod.snd s < (↑l : Int)) ∧ ∃ i, Ld
 Try.prog 3 w' (Addr.add a (Int.toNat (Prod.snd s) * 1)) (Value.int IntKind.i64 i) ∧ br (Prod.fst s) (inR IntKind.i64 (Prod.snd s + (1 : Int)) ∧ next (true, Prod.snd s + (1 : Int)) w') (CallV
 Try.prog 13 [Value.pointer p_1] w' fun e w' ↦ ∃ i_11, e = Ending.returned (Value.int IntKind.i64 i_11) ∧ inR IntKind.i64 (Prod.snd s + (1 : Int)) ∧ next (decide (i = i_11), Prod.snd s + (1 :
 Int)) w')) (br (!Prod.fst s) (R (Ending.returned (Value.bool false)) w') (inR IntKind.i64 (s_5 + (1 : Int)) ∧ next_1 (s_5 + (1 : Int)) w'))) (true, (0 : Int)) w') (CallV Try.prog 13
 [Value.pointer p_1] w' fun e w' ↦ ∃ i, e = Ending.returned (Value.int IntKind.i64 i) ∧ onP p fun a ↦ ∃ a_1 l c, Ld Try.prog 34 w' (Addr.add a 2) (Value.slice a_1 l c) ∧ LoopP (fun (s : Bool
 × Int) (w' : World) (next : Bool × Int → World → Prop) ↦ br (decide (Prod.snd s < (↑l : Int))) (onP a_1 fun a ↦ ((0 : Int) ≤ Prod.snd s ∧ Prod.snd s < (↑l : Int)) ∧ ∃ i, Ld Try.prog 3 w'
 (Addr.add a (Int.toNat (Prod.snd s) * 1)) (Value.int IntKind.i64 i) ∧ br (Prod.fst s) (inR IntKind.i64 (Prod.snd s + (1 : Int)) ∧ next (true, Prod.snd s + (1 : Int)) w') (CallV Try.prog 13
 [Value.pointer p_1] w' fun e w' ↦ ∃ i_11, e = Ending.returned (Value.int IntKind.i64 i_11) ∧ inR IntKind.i64 (Prod.snd s + (1 : Int)) ∧ next (decide (i = i_11), Prod.snd s + (1 : Int)) w')) (br
 (!Prod.fst s) (R (Ending.returned (Value.bool false)) w') (inR IntKind.i64 (s_5 + (1 : Int)) ∧ next_1 (s_5 + (1 : Int)) w'))) (decide (i = (0 : Int)), (0 : Int)) w')) (inR IntKind.i64 (s + (1 : Int))
 ∧ next (s + (1 : Int)) w')) (0 : Int) w')) (LoopP (fun (s_5 : Int) (w' : World) (next_1 : Int → World → Prop) ↦ br (decide (s_5 < (12 : Int))) (CallV Try.prog 12 [Value.pointer p, Value.int
 IntKind.i64 s_5] w' fun e w' ↦ ∃ p_1 b, e = Ending.returned (Value.tuple #[Value.pointer p_1, Value.bool b]) ∧ br (!b) (onP p fun a ↦ ∃ a_1 l c, Ld Try.prog 34 w' (Addr.add a 2) (Value.slice
 a_1 l c) ∧ LoopP (fun (s : Bool × Int) (w' : World) (next : Bool × Int → World → Prop) ↦ br (decide (Prod.snd s < (↑l : Int))) (onP a_1 fun a ↦ ((0 : Int) ≤ Prod.snd s ∧ Prod.snd s < (↑l : Int)) ∧ ∃
 i, Ld Try.prog 3 w' (Addr.add a (Int.toNat (Prod.snd s) * 1)) (Value.int IntKind.i64 i) ∧ br (Prod.fst s) (inR IntKind.i64 (Prod.snd s + (1 : Int)) ∧ next (true, Prod.snd s + (1 : Int)) w')
 (CallV Try.prog 13 [Value.pointer p_1] w' fun e w' ↦ ∃ i_11, e = Ending.returned (Value.int IntKind.i64 i_11) ∧ inR IntKind.i64 (Prod.snd s + (1 : Int)) ∧ next (decide (i = i_11), Prod.snd s
 + (1 : Int)) w')) (br (!Prod.fst s) (R (Ending.returned (Value.bool false)) w') (inR IntKind.i64 (s_5 + (1 : Int)) ∧ next_1 (s_5 + (1 : Int)) w'))) (true, (0 : Int)) w') (CallV Try.prog 13
 [Value.pointer p_1] w' fun e w' ↦ ∃ i, e = Ending.returned (Value.int IntKind.i64 i) ∧ onP p fun a ↦ ∃ a_1 l c, Ld Try.prog 34 w' (Addr.add a 2) (Value.slice a_1 l c) ∧ LoopP (fun (s : Bool
 × Int) (w' : World) (next : Bool × Int → World → Prop) ↦ br (decide (Prod.snd s < (↑l : Int))) (onP a_1 fun a ↦ ((0 : Int) ≤ Prod.snd s ∧ Prod.snd s < (↑l : Int)) ∧ ∃ i, Ld Try.prog 3 w'
 (Addr.add a (Int.toNat (Prod.snd s) * 1)) (Value.int IntKind.i64 i) ∧ br (Prod.fst s) (inR IntKind.i64 (Prod.snd s + (1 : Int)) ∧ next (true, Prod.snd s + (1 : Int)) w') (CallV Try.prog 13
 [Value.pointer p_1] w' fun e w' ↦ ∃ i_11, e = Ending.returned (Value.int IntKind.i64 i_11) ∧ inR IntKind.i64 (Prod.snd s + (1 : Int)) ∧ next (decide (i = i_11), Prod.snd s + (1 : Int)) w')) (br
 (!Prod.fst s) (R (Ending.returned (Value.bool false)) w') (inR IntKind.i64 (s_5 + (1 : Int)) ∧ next_1 (s_5 + (1 : Int)) w'))) (decide (i = (0 : Int)), (0 : Int)) w')) (inR IntKind.i64 (s + (1 : Int))
 ∧ next (s + (1 : Int)) w')) (0 : Int) w')) (LoopP (fun (s_5 : Int) (w' : World) (next_1 : Int → World → Prop) ↦ br (decide (s_5 < (12 : Int))) (CallV Try.prog 12 [Value.pointer p, Value.int
 IntKind.i64 s_5] w' fun e w' ↦ ∃ p_1 b, e = Ending.returned (Value.tuple #[Value.pointer p_1, Value.bool b]) ∧ br (!b) (onP p fun a ↦ ∃ a_1 l c, Ld Try.prog 34 w' (Addr.add a 2) (Value.slice
 a_1 l c) ∧ LoopP (fun (s : Bool × Int) (w' : World) (next : Bool × Int → World → Prop) ↦ br (decide (Prod.snd s < (↑l : Int))) (onP a_1 fun a ↦ ((0 : Int) ≤ Prod.snd s ∧ Prod.snd s < (↑l : Int)) ∧ ∃
 i, Ld Try.prog 3 w' (Addr.add a (Int.toNat (Prod.snd s) * 1)) (Value.int IntKind.i64 i) ∧ br (Prod.fst s) (inR IntKind.i64 (Prod.snd s + (1 : Int)) ∧ next (true, Prod.snd s + (1 : Int)) w')
 (CallV Try.prog 13 [Value.pointer p_1] w' fun e w' ↦ ∃ i_11, e = Ending.returned (Value.int IntKind.i64 i_11) ∧ inR IntKind.i64 (Prod.snd s + (1 : Int)) ∧ next (decide (i = i_11), Prod.snd s
 + (1 : Int)) w')) (br (!Prod.fst s) (R (Ending.returned (Value.bool false)) w') (inR IntKind.i64 (s_5 + (1 : Int)) ∧ next_1 (s_5 + (1 : Int)) w'))) (true, (0 : Int)) w') (CallV Try.prog 13
 [Value.pointer p_1] w' fun e w' ↦ ∃ i, e = Ending.returned (Value.int IntKind.i64 i) ∧ onP p fun a ↦ ∃ a_1 l c, Ld Try.prog 34 w' (Addr.add a 2) (Value.slice a_1 l c) ∧ LoopP (fun (s : Bool
 × Int) (w' : World) (next : Bool × Int → World → Prop) ↦ br (decide (Prod.snd s < (↑l : Int))) (onP a_1 fun a ↦ ((0 : Int) ≤ Prod.snd s ∧ Prod.snd s < (↑l : Int)) ∧ ∃ i, Ld Try.prog 3 w'
 (Addr.add a (Int.toNat (Prod.snd s) * 1)) (Value.int IntKind.i64 i) ∧ br (Prod.fst s) (inR IntKind.i64 (Prod.snd s + (1 : Int)) ∧ next (true, Prod.snd s + (1 : Int)) w') (CallV Try.prog 13
 [Value.pointer p_1] w' fun e w' ↦ ∃ i_11, e = Ending.returned (Value.int IntKind.i64 i_11) ∧ inR IntKind.i64 (Prod.snd s + (1 : Int)) ∧ next (decide (i = i_11), Prod.snd s + (1 : Int)) w')) (br
 (!Prod.fst s) (R (Ending.returned (Value.bool false)) w') (inR IntKind.i64 (s_5 + (1 : Int)) ∧ next_1 (s_5 + (1 : Int)) w'))) (decide (i = (0 : Int)), (0 : Int)) w')) (inR IntKind.i64 (s + (1 : Int))
 ∧ next (s + (1 : Int)) w')) (0 : Int) w'))) (CallV Try.prog 9 [] w' fun e w' ↦ ∃ b, e = Ending.returned (Value.bool b) ∧ R (Ending.returned (Value.bool b)) w')) (0 : Int) w'))) fun (J : Bool
 → World → Prop) ↦ br (decide (many < (4 : Int))) (J true w) (br (decide ((64 : Int) < many)) (J true w) (CallV Try.prog 8 [Value.slice scripta scriptn scriptc] w fun e w' ↦ ∃ b, e =
 Ending.returned (Value.bool b) ∧ J (!b) w'))
theorem framesAhead.eq (many : Int) (scripta : Option Addr) (scriptn : Nat) (scriptc : Nat) (w : World) (R : Ending → World → Prop) : bodyV Try.prog framesAhead.an Try.f3 [.int .i64 many, .slice scripta scriptn scriptc] w R = framesAhead.vc many scripta scriptn scriptc w R := by kernel_rfl
theorem framesAhead.ok (many : Int) (scripta : Option Addr) (scriptn : Nat) (scriptc : Nat) (w : World) (R : Ending → World → Prop) (h : framesAhead.vc many scripta scriptn scriptc w R) : Calls Try.prog 3 #[.int .i64 many, .slice scripta scriptn scriptc] w R :=
  calls_of_bodyV noNum (an := framesAhead.an) (args := [.int .i64 many, .slice scripta scriptn scriptc]) Try.func3 (by kernel_rfl) ((framesAhead.eq many scripta scriptn scriptc w R).mpr h)

/-- incunable/incunablelaw12.FramesPages -/
def framesPages.an : An := { wraps := [], loops := [(9, [(7, .inl .i64), (33, .inl .i64)])], joins := [(2, [(23, .inr 0)])], ranges := [] }
def framesPages.vc (scripta : Option Addr) (scriptn : Nat) (scriptc : Nat) (many : Int) (w : World) (R : Ending → World → Prop) : Prop := JoinP (fun s w' ↦ br s (CallV Try.prog 9 [] w' fun e w' ↦ ∃ b, e = Ending.returned (Value.bool b) ∧ R (Ending.returned (Value.bool b)) w') (CallV Try.prog 10 [Value.int IntKind.i64
 many] w' fun e w' ↦ ∃ p, e = Ending.returned (Value.pointer p) ∧ ∃ b, Eqv Try.prog BinOp.eql 25 (Operand.tmp 27) (Operand.const (Value.pointer none)) w' (Value.pointer p) (Value.pointer
 none) b ∧ br b (R (Ending.returned (Value.bool false)) w') (CallV Try.prog 14 [Value.int IntKind.i64 12, Value.int IntKind.i64 many] w' fun e w' ↦ ∃ a l c a_1 l_1 c_1 i, e = Ending.returned
 (Value.agg #[Value.slice a l c, Value.slice a_1 l_1 c_1, Value.int IntKind.i64 i]) ∧ ∀ b w1, New w' (Obj.cells #[Value.slice none 0 0, Value.slice none 0 0, Value.int IntKind.i64 0] 46) b w1 → ∃ w1_1,
 St Try.prog 46 w1 (Addr.mk b 0 none) (Value.agg #[Value.slice a l c, Value.slice a_1 l_1 c_1, Value.int IntKind.i64 i]) w1_1 ∧ LoopP (fun (s : Int × Int) (w' : World) (next : Int × Int →
 World → Prop) ↦ br (decide (Prod.snd s < (↑scriptn : Int))) (onP scripta fun a ↦ ((0 : Int) ≤ Prod.snd s ∧ Prod.snd s < (↑scriptn : Int)) ∧ ∃ i i_1 b_1 i_2 i_3 i_4 s_1 s_2 i_5, Ld Try.prog
 30 w' (Addr.add a (Int.toNat (Prod.snd s) * 9)) (Value.agg #[Value.int IntKind.i64 i, Value.int IntKind.i64 i_1, Value.bool b_1, Value.int IntKind.i64 i_2, Value.int IntKind.i64 i_3, Value.int
 IntKind.i64 i_4, Value.string s_1, Value.string s_2, Value.int IntKind.i64 i_5]) ∧ ∀ b_2 w1, New w' (Obj.cells #[Value.int IntKind.i64 0, Value.int IntKind.i64 0, Value.bool false, Value.int
 IntKind.i64 0, Value.int IntKind.i64 0, Value.int IntKind.i64 0, Value.string (ByteArray.mk #[]), Value.string (ByteArray.mk #[]), Value.int IntKind.i64 0] 30) b_2 w1 → ∃ w1_2, St Try.prog
 30 w1 (Addr.mk b_2 0 none) (Value.agg #[Value.int IntKind.i64 i, Value.int IntKind.i64 i_1, Value.bool b_1, Value.int IntKind.i64 i_2, Value.int IntKind.i64 i_3, Value.int IntKind.i64 i_4,
 Value.string s_1, Value.string s_2, Value.int IntKind.i64 i_5]) w1_2 ∧ ∃ i, Ld Try.prog 3 w1_2 (Addr.mk b_2 0 none) (Value.int IntKind.i64 i) ∧ br (decide (i = (2 : Int))) (inR IntKind.i64
 (Prod.snd s + (1 : Int)) ∧ next (Prod.fst s, Prod.snd s + (1 : Int)) w1_2) (∃ a l c a_3 l_2 c_2 i, Ld Try.prog 46 w1_2 (Addr.mk b 0 none) (Value.agg #[Value.slice a l c, Value.slice a_3 l_2
 c_2, Value.int IntKind.i64 i]) ∧ ∃ i_6 i_7 b_3 i_8 i_9 i_10 s_3 s_4 i_11, Ld Try.prog 30 w1_2 (Addr.mk b_2 0 none) (Value.agg #[Value.int IntKind.i64 i_6, Value.int IntKind.i64 i_7,
 Value.bool b_3, Value.int IntKind.i64 i_8, Value.int IntKind.i64 i_9, Value.int IntKind.i64 i_10, Value.string s_3, Value.string s_4, Value.int IntKind.i64 i_11]) ∧ CallV Try.prog 15
 [Value.agg #[Value.slice a l c, Value.slice a_3 l_2 c_2, Value.int IntKind.i64 i], Value.agg #[Value.int IntKind.i64 i_6, Value.int IntKind.i64 i_7, Value.bool b_3, Value.int IntKind.i64 i_8,
 Value.int IntKind.i64 i_9, Value.int IntKind.i64 i_10, Value.string s_3, Value.string s_4, Value.int IntKind.i64 i_11]] w1_2 fun e w' ↦ ∃ a l c a_4 l_3 c_3 i i_12, e = Ending.returned (Value.tuple
 #[Value.agg #[Value.slice a l c, Value.slice a_4 l_3 c_3, Value.int IntKind.i64 i], Value.int IntKind.i64 i_12]) ∧ ∀ b_4 w1, New w' (Obj.cells #[Value.slice none 0 0, Value.slice none 0 0, Value.int
 IntKind.i64 0] 46) b_4 w1 → ∃ w1_3, St Try.prog 46 w1 (Addr.mk b_4 0 none) (Value.agg #[Value.slice a l c, Value.slice a_4 l_3 c_3, Value.int IntKind.i64 i]) w1_3 ∧ ∃ a l c a_6 l_4 c_4 i, Ld
 Try.prog 46 w1_3 (Addr.mk b_4 0 none) (Value.agg #[Value.slice a l c, Value.slice a_6 l_4 c_4, Value.int IntKind.i64 i]) ∧ ∃ w1, St Try.prog 46 w1_3 (Addr.mk b 0 none) (Value.agg
 #[Value.slice a l c, Value.slice a_6 l_4 c_4, Value.int IntKind.i64 i]) w1 ∧ ∃ i i_13 b i_14 i_15 i_16, ∃ (s_5 : ByteArray), ∃ (s_6 : ByteArray), ∃ (i_17 : Int), Ld Try.prog 30 w1 (Addr.mk
 b_2 0 none) (Value.agg #[Value.int IntKind.i64 i, Value.int IntKind.i64 i_13, Value.bool b, Value.int IntKind.i64 i_14, Value.int IntKind.i64 i_15, Value.int IntKind.i64 i_16, Value.string s_5,
 Value.string s_6, Value.int IntKind.i64 i_17]) ∧ CallV Try.prog 11 [Value.pointer p, Value.agg #[Value.int IntKind.i64 i, Value.int IntKind.i64 i_13, Value.bool b, Value.int IntKind.i64
 i_14, Value.int IntKind.i64 i_15, Value.int IntKind.i64 i_16, Value.string s_5, Value.string s_6, Value.int IntKind.i64 i_17]] w1 fun (e : Ending) (w' : World) ↦ ∃ (i : Int), e = Ending.returned
 (Value.int IntKind.i64 i) ∧ br (!decide (i = i_12)) (R (Ending.returned (Value.bool false)) w') (br (decide (i_12 = (0 : Int))) (∃ (i : Int), Ld Try.prog 3 w' (Addr.mk b_2 0 none) (Value.int
 IntKind.i64 i) ∧ br (decide (i = (0 : Int))) (∃ (i : Int), Ld Try.prog 3 w' (Addr.mk b_2 1 none) (Value.int IntKind.i64 i) ∧ inR IntKind.i64 (i + (1 : Int)) ∧ onP p fun (a : Addr) ↦ ∃ (p :
 Option Addr), Ld Try.prog 33 w' (Addr.add a 1) (Value.pointer p) ∧ CallV Try.prog 16 [Value.pointer p] w' fun (e : Ending) (w' : World) ↦ ∃ (i_18 : Int), e = Ending.returned
 (Value.int IntKind.i64 i_18) ∧ br (!decide (i_18 = max (Prod.fst s) (i + (1 : Int)))) (R (Ending.returned (Value.bool false)) w') (inR IntKind.i64 (Prod.snd s + (1 : Int)) ∧ next (max (Prod.fst s) (i
 + (1 : Int)), Prod.snd s + (1 : Int)) w')) (∃ (i : Int), Ld Try.prog 3 w' (Addr.mk b_2 0 none) (Value.int IntKind.i64 i) ∧ br (decide (i = (4 : Int))) (∃ (i : Int), Ld Try.prog 3
 w' (Addr.mk b_2 1 none) (Value.int IntKind.i64 i) ∧ inR IntKind.i64 (i + (1 : Int)) ∧ onP p fun (a : Addr) ↦ ∃ (p : Option Addr), Ld Try.prog 33 w' (Addr.add a 1) (Value.pointer p) ∧ CallV
 Try.prog 16 [Value.pointer p] w' fun (e : Ending) (w' : World) ↦ ∃ (i_18 : Int), e = Ending.returned (Value.int IntKind.i64 i_18) ∧ br (!decide (i_18 = max (Prod.fst s) (i + (1 : Int)))) (R
 (Ending.returned (Value.bool false)) w') (inR IntKind.i64 (Prod.snd s + (1 : Int)) ∧ next (max (Prod.fst s) (i + (1 : Int)), Prod.snd s + (1 : Int)) w')) (onP p fun (a : Addr) ↦ ∃ (p : Option Addr),
 Ld Try.prog 33 w' (Addr.add a 1) (Value.pointer p) ∧ CallV Try.prog 16 [Value.pointer p] w' fun (e : Ending) (w' : World) ↦ ∃ (i : Int), e = Ending.returned (Value.int IntKind.i64
 i) ∧ br (!decide (i = Prod.fst s)) (R (Ending.returned (Value.bool false)) w') (inR IntKind.i64 (Prod.snd s + (1 : Int)) ∧ next (Prod.fst s, Prod.snd s + (1 : Int)) w')))) (onP p fun (a : Addr) ↦ ∃ (p
 : Option Addr), Ld Try.prog 33 w' (Addr.add a 1) (Value.pointer p) ∧ CallV Try.prog 16 [Value.pointer p] w' fun (e : Ending) (w' : World) ↦ ∃ (i : Int), e = Ending.returned
 (Value.int IntKind.i64 i) ∧ br (!decide (i = Prod.fst s)) (R (Ending.returned (Value.bool false)) w') (inR IntKind.i64 (Prod.snd s + (1 : Int)) ∧ next (Prod.fst s, Prod.snd s + (1 : Int)) w'))))) (onP
 p fun a ↦ ∃ p_1, Ld Try.prog 32 w' a (Value.pointer p_1) ∧ CallV Try.prog 17 [Value.pointer p_1, Value.string (ByteArray.mk #[(100 : UInt8), (97 : UInt8), (116 : UInt8), (97 :
 UInt8)])] w' fun e w' ↦ ∃ i, e = Ending.returned (Value.int IntKind.i64 i) ∧ inR IntKind.i64 (i + (7 : Int)) ∧ (8 : Int) ≠ (0 : Int) ∧ inR IntKind.i64 (Int.tdiv (i + (7 : Int)) (8 : Int)) ∧ CallV
 Try.prog 18 [Value.pointer p, Value.int IntKind.i64 many] w' fun e w' ↦ ∃ p_2, e = Ending.returned (Value.pointer p_2) ∧ ∃ b, Eqv Try.prog BinOp.eql 25 (Operand.tmp 86)
 (Operand.const (Value.pointer none)) w' (Value.pointer p_2) (Value.pointer none) b ∧ br b (R (Ending.returned (Value.bool false)) w') (CallV Try.prog 9 [] w' fun e w' ↦ ∃ b, e =
 Ending.returned (Value.bool b) ∧ br b (onP p fun a ↦ ∃ p, Ld Try.prog 33 w' (Addr.add a 1) (Value.pointer p) ∧ CallV Try.prog 16 [Value.pointer p] w' fun e w' ↦ ∃ i_1, e =
 Ending.returned (Value.int IntKind.i64 i_1) ∧ br (decide (i_1 = Int.tdiv (i + (7 : Int)) (8 : Int))) (R (Ending.returned (Value.bool (decide (Int.tdiv (i + (7 : Int)) (8 : Int) ≤ Prod.fst s)))) w') (R
 (Ending.returned (Value.bool false)) w')) (R (Ending.returned (Value.bool false)) w')))) ((0 : Int), (0 : Int)) w1_1))) fun (J : Bool → World → Prop) ↦ br (decide (many < (4 : Int))) (J true w) (br
 (decide ((64 : Int) < many)) (J true w) (CallV Try.prog 8 [Value.slice scripta scriptn scriptc] w fun e w' ↦ ∃ b, e = Ending.returned (Value.bool b) ∧ J (!b) w'))
theorem framesPages.eq (scripta : Option Addr) (scriptn : Nat) (scriptc : Nat) (many : Int) (w : World) (R : Ending → World → Prop) : bodyV Try.prog framesPages.an Try.f4 [.slice scripta scriptn scriptc, .int .i64 many] w R = framesPages.vc scripta scriptn scriptc many w R := by kernel_rfl
theorem framesPages.ok (scripta : Option Addr) (scriptn : Nat) (scriptc : Nat) (many : Int) (w : World) (R : Ending → World → Prop) (h : framesPages.vc scripta scriptn scriptc many w R) : Calls Try.prog 4 #[.slice scripta scriptn scriptc, .int .i64 many] w R :=
  calls_of_bodyV noNum (an := framesPages.an) (args := [.slice scripta scriptn scriptc, .int .i64 many]) Try.func4 (by kernel_rfl) ((framesPages.eq scripta scriptn scriptc many w R).mpr h)

/-- incunable/incunablelaw12.FramesRefused -/
def framesRefused.an : An := { wraps := [], loops := [(9, [(35, .inl .i64)])], joins := [(2, [(22, .inr 0)])], ranges := [] }
def framesRefused.vc (many : Int) (scripta : Option Addr) (scriptn : Nat) (scriptc : Nat) (w : World) (R : Ending → World → Prop) : Prop := JoinP (fun s w' ↦ br s (CallV Try.prog 9 [] w' fun e w' ↦ ∃ b, e = Ending.returned (Value.bool b) ∧ R (Ending.returned (Value.bool b)) w') (CallV Try.prog 10 [Value.int IntKind.i64
 many] w' fun e w' ↦ ∃ p, e = Ending.returned (Value.pointer p) ∧ ∃ b, Eqv Try.prog BinOp.eql 25 (Operand.tmp 26) (Operand.const (Value.pointer none)) w' (Value.pointer p) (Value.pointer
 none) b ∧ br b (R (Ending.returned (Value.bool false)) w') (onP p fun a ↦ ∃ w1, St Try.prog 4 w' (Addr.add a 3) (Value.bool true) w1 ∧ CallV Try.prog 14 [Value.int IntKind.i64 12,
 Value.int IntKind.i64 many] w1 fun e w' ↦ ∃ a l c a_1 l_1 c_1 i, e = Ending.returned (Value.agg #[Value.slice a l c, Value.slice a_1 l_1 c_1, Value.int IntKind.i64 i]) ∧ ∀ b w1, New w' (Obj.cells
 #[Value.slice none 0 0, Value.slice none 0 0, Value.int IntKind.i64 0] 46) b w1 → ∃ w1_1, St Try.prog 46 w1 (Addr.mk b 0 none) (Value.agg #[Value.slice a l c, Value.slice a_1 l_1 c_1,
 Value.int IntKind.i64 i]) w1_1 ∧ LoopP (fun (s : Int) (w' : World) (next : Int → World → Prop) ↦ br (decide (s < (↑scriptn : Int))) (onP scripta fun a ↦ ((0 : Int) ≤ s ∧ s < (↑scriptn : Int)) ∧ ∃ i
 i_1 b_1 i_2 i_3 i_4 s_1 s_2 i_5, Ld Try.prog 30 w' (Addr.add a (Int.toNat s * 9)) (Value.agg #[Value.int IntKind.i64 i, Value.int IntKind.i64 i_1, Value.bool b_1, Value.int IntKind.i64 i_2,
 Value.int IntKind.i64 i_3, Value.int IntKind.i64 i_4, Value.string s_1, Value.string s_2, Value.int IntKind.i64 i_5]) ∧ ∀ b_2 w1, New w' (Obj.cells #[Value.int IntKind.i64 0, Value.int IntKind.i64 0,
 Value.bool false, Value.int IntKind.i64 0, Value.int IntKind.i64 0, Value.int IntKind.i64 0, Value.string (ByteArray.mk #[]), Value.string (ByteArray.mk #[]), Value.int IntKind.i64 0] 30) b_2 w1 → ∃
 w1_2, St Try.prog 30 w1 (Addr.mk b_2 0 none) (Value.agg #[Value.int IntKind.i64 i, Value.int IntKind.i64 i_1, Value.bool b_1, Value.int IntKind.i64 i_2, Value.int IntKind.i64 i_3, Value.int
 IntKind.i64 i_4, Value.string s_1, Value.string s_2, Value.int IntKind.i64 i_5]) w1_2 ∧ ∃ i, Ld Try.prog 3 w1_2 (Addr.mk b_2 0 none) (Value.int IntKind.i64 i) ∧ br (decide (i = (2 : Int)))
 (∃ i, Ld Try.prog 3 w1_2 (Addr.mk b_2 1 none) (Value.int IntKind.i64 i) ∧ br (decide (i < (0 : Int))) (inR IntKind.i64 (s + (1 : Int)) ∧ next (s + (1 : Int)) w1_2) (∃ i, Ld
 Try.prog 3 w1_2 (Addr.mk b_2 1 none) (Value.int IntKind.i64 i) ∧ br (decide ((12 : Int) ≤ i)) (inR IntKind.i64 (s + (1 : Int)) ∧ next (s + (1 : Int)) w1_2) (∃ a l c, Ld Try.prog 34
 w1_2 (Addr.mk b 1 none) (Value.slice a l c) ∧ ∃ i, Ld Try.prog 3 w1_2 (Addr.mk b_2 1 none) (Value.int IntKind.i64 i) ∧ onP a fun a ↦ ((0 : Int) ≤ i ∧ i < (↑l : Int)) ∧ ∃ i_6, Ld
 Try.prog 3 w1_2 (Addr.add a (Int.toNat i * 1)) (Value.int IntKind.i64 i_6) ∧ br (decide (i_6 = (0 : Int))) (inR IntKind.i64 (s + (1 : Int)) ∧ next (s + (1 : Int)) w1_2) (∃ a l c a_3 l_2 c_2
 i, Ld Try.prog 46 w1_2 (Addr.mk b 0 none) (Value.agg #[Value.slice a l c, Value.slice a_3 l_2 c_2, Value.int IntKind.i64 i]) ∧ ∃ i_7 i_8 b_3 i_9 i_10 i_11 s_3 s_4 i_12, Ld Try.prog
 30 w1_2 (Addr.mk b_2 0 none) (Value.agg #[Value.int IntKind.i64 i_7, Value.int IntKind.i64 i_8, Value.bool b_3, Value.int IntKind.i64 i_9, Value.int IntKind.i64 i_10, Value.int IntKind.i64 i_11,
 Value.string s_3, Value.string s_4, Value.int IntKind.i64 i_12]) ∧ CallV Try.prog 15 [Value.agg #[Value.slice a l c, Value.slice a_3 l_2 c_2, Value.int IntKind.i64 i], Value.agg #[Value.int
 IntKind.i64 i_7, Value.int IntKind.i64 i_8, Value.bool b_3, Value.int IntKind.i64 i_9, Value.int IntKind.i64 i_10, Value.int IntKind.i64 i_11, Value.string s_3, Value.string s_4, Value.int IntKind.i64
 i_12]] w1_2 fun e w' ↦ ∃ a l c a_4 l_3 c_3 i i_13, e = Ending.returned (Value.tuple #[Value.agg #[Value.slice a l c, Value.slice a_4 l_3 c_3, Value.int IntKind.i64 i], Value.int IntKind.i64 i_13]) ∧ ∀
 (b_4 : Nat) (w1 : World), New w' (Obj.cells #[Value.slice none 0 0, Value.slice none 0 0, Value.int IntKind.i64 0] 46) b_4 w1 → ∃ (w1_3 : World), St Try.prog 46 w1 (Addr.mk b_4 0 none)
 (Value.agg #[Value.slice a l c, Value.slice a_4 l_3 c_3, Value.int IntKind.i64 i]) w1_3 ∧ ∃ (i : Int), ∃ (i_14 : Int), ∃ (b_5 : Bool), ∃ (i_15 : Int), ∃ (i_16 : Int), ∃ (i_17 : Int), ∃ (s_5 :
 ByteArray), ∃ (s_6 : ByteArray), ∃ (i_18 : Int), Ld Try.prog 30 w1_3 (Addr.mk b_2 0 none) (Value.agg #[Value.int IntKind.i64 i, Value.int IntKind.i64 i_14, Value.bool b_5, Value.int
 IntKind.i64 i_15, Value.int IntKind.i64 i_16, Value.int IntKind.i64 i_17, Value.string s_5, Value.string s_6, Value.int IntKind.i64 i_18]) ∧ CallV Try.prog 11 [Value.pointer p, Value.agg
 #[Value.int IntKind.i64 i, Value.int IntKind.i64 i_14, Value.bool b_5, Value.int IntKind.i64 i_15, Value.int IntKind.i64 i_16, Value.int IntKind.i64 i_17, Value.string s_5, Value.string s_6, Value.int
 IntKind.i64 i_18]] w1_3 fun (e : Ending) (w' : World) ↦ ∃ (i : Int), e = Ending.returned (Value.int IntKind.i64 i) ∧ br (decide (i = i_13)) (∃ (a : Option Addr), ∃ (l : Nat), ∃ (c : Nat), ∃ (a_6 :
 Option Addr), ∃ (l_4 : Nat), ∃ (c_4 : Nat), ∃ (i : Int), Ld Try.prog 46 w' (Addr.mk b_4 0 none) (Value.agg #[Value.slice a l c, Value.slice a_6 l_4 c_4, Value.int IntKind.i64 i]) ∧ ∃ (w1 :
 World), St Try.prog 46 w' (Addr.mk b 0 none) (Value.agg #[Value.slice a l c, Value.slice a_6 l_4 c_4, Value.int IntKind.i64 i]) w1 ∧ inR IntKind.i64 (s + (1 : Int)) ∧ next (s + (1 : Int))
 w1) (br (!decide (i = (190 : Int))) (R (Ending.returned (Value.bool false)) w') (inR IntKind.i64 (s + (1 : Int)) ∧ next (s + (1 : Int)) w')))))) (∃ a l c a_3 l_2 c_2 i, Ld Try.prog 46 w1_2
 (Addr.mk b 0 none) (Value.agg #[Value.slice a l c, Value.slice a_3 l_2 c_2, Value.int IntKind.i64 i]) ∧ ∃ i_6 i_7 b_3 i_8 i_9 i_10 s_3 s_4 i_11, Ld Try.prog 30 w1_2 (Addr.mk b_2 0 none)
 (Value.agg #[Value.int IntKind.i64 i_6, Value.int IntKind.i64 i_7, Value.bool b_3, Value.int IntKind.i64 i_8, Value.int IntKind.i64 i_9, Value.int IntKind.i64 i_10, Value.string s_3, Value.string s_4,
 Value.int IntKind.i64 i_11]) ∧ CallV Try.prog 15 [Value.agg #[Value.slice a l c, Value.slice a_3 l_2 c_2, Value.int IntKind.i64 i], Value.agg #[Value.int IntKind.i64 i_6, Value.int
 IntKind.i64 i_7, Value.bool b_3, Value.int IntKind.i64 i_8, Value.int IntKind.i64 i_9, Value.int IntKind.i64 i_10, Value.string s_3, Value.string s_4, Value.int IntKind.i64 i_11]] w1_2 fun e w' ↦ ∃ a
 l c a_4 l_3 c_3 i i_12, e = Ending.returned (Value.tuple #[Value.agg #[Value.slice a l c, Value.slice a_4 l_3 c_3, Value.int IntKind.i64 i], Value.int IntKind.i64 i_12]) ∧ ∀ b_4 w1, New w' (Obj.cells
 #[Value.slice none 0 0, Value.slice none 0 0, Value.int IntKind.i64 0] 46) b_4 w1 → ∃ w1_3, St Try.prog 46 w1 (Addr.mk b_4 0 none) (Value.agg #[Value.slice a l c, Value.slice a_4 l_3 c_3,
 Value.int IntKind.i64 i]) w1_3 ∧ ∃ i i_13 b_5 i_14 i_15 i_16 s_5 s_6 i_17, Ld Try.prog 30 w1_3 (Addr.mk b_2 0 none) (Value.agg #[Value.int IntKind.i64 i, Value.int IntKind.i64 i_13,
 Value.bool b_5, Value.int IntKind.i64 i_14, Value.int IntKind.i64 i_15, Value.int IntKind.i64 i_16, Value.string s_5, Value.string s_6, Value.int IntKind.i64 i_17]) ∧ CallV Try.prog 11
 [Value.pointer p, Value.agg #[Value.int IntKind.i64 i, Value.int IntKind.i64 i_13, Value.bool b_5, Value.int IntKind.i64 i_14, Value.int IntKind.i64 i_15, Value.int IntKind.i64 i_16, Value.string s_5,
 Value.string s_6, Value.int IntKind.i64 i_17]] w1_3 fun (e : Ending) (w' : World) ↦ ∃ i, e = Ending.returned (Value.int IntKind.i64 i) ∧ br (decide (i = i_12)) (∃ (a : Option Addr), ∃ l, ∃ (c : Nat),
 ∃ (a_6 : Option Addr), ∃ (l_4 : Nat), ∃ (c_4 : Nat), ∃ (i : Int), Ld Try.prog 46 w' (Addr.mk b_4 0 none) (Value.agg #[Value.slice a l c, Value.slice a_6 l_4 c_4, Value.int IntKind.i64 i]) ∧
 ∃ (w1 : World), St Try.prog 46 w' (Addr.mk b 0 none) (Value.agg #[Value.slice a l c, Value.slice a_6 l_4 c_4, Value.int IntKind.i64 i]) w1 ∧ inR IntKind.i64 (s + (1 : Int)) ∧ next (s + (1 :
 Int)) w1) (br (!decide (i = (190 : Int))) (R (Ending.returned (Value.bool false)) w') (inR IntKind.i64 (s + (1 : Int)) ∧ next (s + (1 : Int)) w')))) (onP p fun a ↦ ∃ p_1, Ld Try.prog 32 w' a
 (Value.pointer p_1) ∧ CallV Try.prog 17 [Value.pointer p_1, Value.string (ByteArray.mk #[(100 : UInt8), (97 : UInt8), (116 : UInt8), (97 : UInt8)])] w' fun e w' ↦ ∃ i, e = Ending.returned
 (Value.int IntKind.i64 i) ∧ br (decide ((0 : Int) < i)) (R (Ending.returned (Value.bool false)) w') (onP p fun a ↦ ∃ w1, St Try.prog 4 w' (Addr.add a 3) (Value.bool false) w1 ∧ CallV
 Try.prog 9 [] w1 fun e w' ↦ ∃ b_1, e = Ending.returned (Value.bool b_1) ∧ br b_1 (∃ a l c a_3 l_2 c_2 i, Ld Try.prog 46 w' (Addr.mk b 0 none) (Value.agg #[Value.slice a l c,
 Value.slice a_3 l_2 c_2, Value.int IntKind.i64 i]) ∧ CallV Try.prog 19 [Value.pointer p, Value.agg #[Value.slice a l c, Value.slice a_3 l_2 c_2, Value.int IntKind.i64 i]] w' fun e w' ↦ ∃ b,
 e = Ending.returned (Value.bool b) ∧ R (Ending.returned (Value.bool b)) w') (R (Ending.returned (Value.bool false)) w')))) (0 : Int) w1_1))) fun (J : Bool → World → Prop) ↦ br (decide (many < (4 :
 Int))) (J true w) (br (decide ((64 : Int) < many)) (J true w) (CallV Try.prog 8 [Value.slice scripta scriptn scriptc] w fun e w' ↦ ∃ b, e = Ending.returned (Value.bool b) ∧ J (!b) w'))
theorem framesRefused.eq (many : Int) (scripta : Option Addr) (scriptn : Nat) (scriptc : Nat) (w : World) (R : Ending → World → Prop) : bodyV Try.prog framesRefused.an Try.f5 [.int .i64 many, .slice scripta scriptn scriptc] w R = framesRefused.vc many scripta scriptn scriptc w R := by kernel_rfl
theorem framesRefused.ok (many : Int) (scripta : Option Addr) (scriptn : Nat) (scriptc : Nat) (w : World) (R : Ending → World → Prop) (h : framesRefused.vc many scripta scriptn scriptc w R) : Calls Try.prog 5 #[.int .i64 many, .slice scripta scriptn scriptc] w R :=
  calls_of_bodyV noNum (an := framesRefused.an) (args := [.int .i64 many, .slice scripta scriptn scriptc]) Try.func5 (by kernel_rfl) ((framesRefused.eq many scripta scriptn scriptc w R).mpr h)

/-- incunable/incunablelaw12.FramesAll -/
def framesAll.an : An := { wraps := [], loops := [], joins := [], ranges := [] }
def framesAll.vc (many : Int) (scripta : Option Addr) (scriptn : Nat) (scriptc : Nat) (w : World) (R : Ending → World → Prop) : Prop := br (decide (many < (4 : Int))) (CallV Try.prog 9 [] w fun e w' ↦ ∃ b, e = Ending.returned (Value.bool b) ∧ R (Ending.returned (Value.bool b)) w') (br (decide ((64 : Int) < many)) (CallV
 Try.prog 9 [] w fun e w' ↦ ∃ b, e = Ending.returned (Value.bool b) ∧ R (Ending.returned (Value.bool b)) w') (CallV Try.prog 8 [Value.slice scripta scriptn scriptc] w fun e w' ↦ ∃
 b, e = Ending.returned (Value.bool b) ∧ br (!b) (CallV Try.prog 9 [] w' fun e w' ↦ ∃ b, e = Ending.returned (Value.bool b) ∧ R (Ending.returned (Value.bool b)) w') (CallV Try.prog
 10 [Value.int IntKind.i64 many] w' fun e w' ↦ ∃ p, e = Ending.returned (Value.pointer p) ∧ ∃ b, Eqv Try.prog BinOp.eql 25 (Operand.tmp 22) (Operand.const (Value.pointer none)) w'
 (Value.pointer p) (Value.pointer none) b ∧ br b (R (Ending.returned (Value.bool false)) w') (CallV Try.prog 14 [Value.int IntKind.i64 12, Value.int IntKind.i64 many] w' fun e w' ↦ ∃ a l c
 a_1 l_1 c_1 i, e = Ending.returned (Value.agg #[Value.slice a l c, Value.slice a_1 l_1 c_1, Value.int IntKind.i64 i]) ∧ CallV Try.prog 20 [Value.pointer p, Value.agg #[Value.slice a l c,
 Value.slice a_1 l_1 c_1, Value.int IntKind.i64 i], Value.slice scripta scriptn scriptc] w' fun e w' ↦ ∃ a l c a_2 l_2 c_2 i b, e = Ending.returned (Value.tuple #[Value.agg #[Value.slice a l c,
 Value.slice a_2 l_2 c_2, Value.int IntKind.i64 i], Value.bool b]) ∧ ∀ b_1 w1, New w' (Obj.cells #[Value.slice none 0 0, Value.slice none 0 0, Value.int IntKind.i64 0] 46) b_1 w1 → ∃ w1_1, St
 Try.prog 46 w1 (Addr.mk b_1 0 none) (Value.agg #[Value.slice a l c, Value.slice a_2 l_2 c_2, Value.int IntKind.i64 i]) w1_1 ∧ CallV Try.prog 9 [] w1_1 fun e w' ↦ ∃ b_2, e =
 Ending.returned (Value.bool b_2) ∧ br b_2 (br b (∃ a l c a_4 l_3 c_3 i, Ld Try.prog 46 w' (Addr.mk b_1 0 none) (Value.agg #[Value.slice a l c, Value.slice a_4 l_3 c_3, Value.int IntKind.i64
 i]) ∧ CallV Try.prog 19 [Value.pointer p, Value.agg #[Value.slice a l c, Value.slice a_4 l_3 c_3, Value.int IntKind.i64 i]] w' fun e w' ↦ ∃ b, e = Ending.returned (Value.bool b) ∧ R
 (Ending.returned (Value.bool b)) w') (R (Ending.returned (Value.bool false)) w')) (R (Ending.returned (Value.bool false)) w')))))
theorem framesAll.eq (many : Int) (scripta : Option Addr) (scriptn : Nat) (scriptc : Nat) (w : World) (R : Ending → World → Prop) : bodyV Try.prog framesAll.an Try.f6 [.int .i64 many, .slice scripta scriptn scriptc] w R = framesAll.vc many scripta scriptn scriptc w R := by kernel_rfl
theorem framesAll.ok (many : Int) (scripta : Option Addr) (scriptn : Nat) (scriptc : Nat) (w : World) (R : Ending → World → Prop) (h : framesAll.vc many scripta scriptn scriptc w R) : Calls Try.prog 6 #[.int .i64 many, .slice scripta scriptn scriptc] w R :=
  calls_of_bodyV noNum (an := framesAll.an) (args := [.int .i64 many, .slice scripta scriptn scriptc]) Try.func6 (by kernel_rfl) ((framesAll.eq many scripta scriptn scriptc w R).mpr h)

/-- incunable/incunablelaw12.FramesFails -/
def framesFails.an : An := { wraps := [], loops := [(8, [(39, .inl .i64)])], joins := [(2, [(29, .inr 0)])], ranges := [] }
def framesFails.vc (many : Int) (scripta : Option Addr) (scriptn : Nat) (scriptc : Nat) (deniesa : Option Addr) (deniesn : Nat) (deniesc : Nat) (w : World) (R : Ending → World → Prop) : Prop := JoinP (fun s w' ↦ br s (CallV Try.prog 9 [] w' fun e w' ↦ ∃ b, e = Ending.returned (Value.bool b) ∧ R (Ending.returned (Value.bool b)) w') (CallV Try.prog 10 [Value.int IntKind.i64
 many] w' fun e w' ↦ ∃ p, e = Ending.returned (Value.pointer p) ∧ ∃ b, Eqv Try.prog BinOp.eql 25 (Operand.tmp 33) (Operand.const (Value.pointer none)) w' (Value.pointer p) (Value.pointer
 none) b ∧ br b (R (Ending.returned (Value.bool false)) w') (CallV Try.prog 14 [Value.int IntKind.i64 12, Value.int IntKind.i64 many] w' fun e w' ↦ ∃ a l c a_1 l_1 c_1 i, e = Ending.returned
 (Value.agg #[Value.slice a l c, Value.slice a_1 l_1 c_1, Value.int IntKind.i64 i]) ∧ ∀ b w1, New w' (Obj.cells #[Value.slice none 0 0, Value.slice none 0 0, Value.int IntKind.i64 0] 46) b w1 → ∃ w1_1,
 St Try.prog 46 w1 (Addr.mk b 0 none) (Value.agg #[Value.slice a l c, Value.slice a_1 l_1 c_1, Value.int IntKind.i64 i]) w1_1 ∧ LoopP (fun (s : Int) (w' : World) (next : Int → World → Prop) ↦
 br (decide (s < (↑scriptn : Int))) (onP scripta fun a ↦ ((0 : Int) ≤ s ∧ s < (↑scriptn : Int)) ∧ ∃ i i_1 b_1 i_2 i_3 i_4 s_1 s_2 i_5, Ld Try.prog 30 w' (Addr.add a (Int.toNat s * 9))
 (Value.agg #[Value.int IntKind.i64 i, Value.int IntKind.i64 i_1, Value.bool b_1, Value.int IntKind.i64 i_2, Value.int IntKind.i64 i_3, Value.int IntKind.i64 i_4, Value.string s_1, Value.string s_2,
 Value.int IntKind.i64 i_5]) ∧ ∀ b_2 w1, New w' (Obj.cells #[Value.int IntKind.i64 0, Value.int IntKind.i64 0, Value.bool false, Value.int IntKind.i64 0, Value.int IntKind.i64 0, Value.int IntKind.i64
 0, Value.string (ByteArray.mk #[]), Value.string (ByteArray.mk #[]), Value.int IntKind.i64 0] 30) b_2 w1 → ∃ w1_2, St Try.prog 30 w1 (Addr.mk b_2 0 none) (Value.agg #[Value.int IntKind.i64
 i, Value.int IntKind.i64 i_1, Value.bool b_1, Value.int IntKind.i64 i_2, Value.int IntKind.i64 i_3, Value.int IntKind.i64 i_4, Value.string s_1, Value.string s_2, Value.int IntKind.i64 i_5]) w1_2 ∧ ∃
 i, Ld Try.prog 3 w1_2 (Addr.mk b_2 0 none) (Value.int IntKind.i64 i) ∧ br (decide (i = (2 : Int))) (∃ i, Ld Try.prog 3 w1_2 (Addr.mk b_2 1 none) (Value.int IntKind.i64 i) ∧ br
 (decide (i < (0 : Int))) (inR IntKind.i64 (s + (1 : Int)) ∧ next (s + (1 : Int)) w1_2) (∃ i, Ld Try.prog 3 w1_2 (Addr.mk b_2 1 none) (Value.int IntKind.i64 i) ∧ br (decide ((12 : Int) ≤ i))
 (inR IntKind.i64 (s + (1 : Int)) ∧ next (s + (1 : Int)) w1_2) (∃ a l c, Ld Try.prog 34 w1_2 (Addr.mk b 1 none) (Value.slice a l c) ∧ ∃ i, Ld Try.prog 3 w1_2 (Addr.mk b_2 1 none)
 (Value.int IntKind.i64 i) ∧ onP a fun a ↦ ((0 : Int) ≤ i ∧ i < (↑l : Int)) ∧ ∃ i_6, Ld Try.prog 3 w1_2 (Addr.add a (Int.toNat i * 1)) (Value.int IntKind.i64 i_6) ∧ br (decide (i_6 = (0 :
 Int))) (inR IntKind.i64 (s + (1 : Int)) ∧ next (s + (1 : Int)) w1_2) (br (decide (s < (↑deniesn : Int))) (onP p fun a ↦ ∃ p_1, Ld Try.prog 32 (World.drew w1_2) a (Value.pointer p_1) ∧ onP
 deniesa fun a ↦ ((0 : Int) ≤ s ∧ s < (↑deniesn : Int)) ∧ ∃ i, Ld Try.prog 3 (World.drew w1_2) (Addr.add a (Int.toNat s * 1)) (Value.int IntKind.i64 i) ∧ CallV Try.prog 21
 [Value.pointer p_1, Value.int IntKind.i64 i] (World.drew w1_2) fun e w' ↦ e = Ending.returned (Value.tuple #[]) ∧ ∃ a l c a_3 l_2 c_2 i, Ld Try.prog 46 w' (Addr.mk b 0 none) (Value.agg
 #[Value.slice a l c, Value.slice a_3 l_2 c_2, Value.int IntKind.i64 i]) ∧ ∃ i_7 i_8 b_3 i_9 i_10 i_11 s_3 s_4 i_12, Ld Try.prog 30 w' (Addr.mk b_2 0 none) (Value.agg #[Value.int IntKind.i64
 i_7, Value.int IntKind.i64 i_8, Value.bool b_3, Value.int IntKind.i64 i_9, Value.int IntKind.i64 i_10, Value.int IntKind.i64 i_11, Value.string s_3, Value.string s_4, Value.int IntKind.i64 i_12]) ∧
 CallV Try.prog 15 [Value.agg #[Value.slice a l c, Value.slice a_3 l_2 c_2, Value.int IntKind.i64 i], Value.agg #[Value.int IntKind.i64 i_7, Value.int IntKind.i64 i_8, Value.bool b_3,
 Value.int IntKind.i64 i_9, Value.int IntKind.i64 i_10, Value.int IntKind.i64 i_11, Value.string s_3, Value.string s_4, Value.int IntKind.i64 i_12]] w' fun (e : Ending) (w' : World) ↦ ∃ a l c, ∃ (a_4 :
 Option Addr), ∃ (l_3 : Nat), ∃ (c_3 : Nat), ∃ (i : Int), ∃ (i_13 : Int), e = Ending.returned (Value.tuple #[Value.agg #[Value.slice a l c, Value.slice a_4 l_3 c_3, Value.int IntKind.i64 i], Value.int
 IntKind.i64 i_13]) ∧ ∀ (b_4 : Nat) (w1 : World), New w' (Obj.cells #[Value.slice none 0 0, Value.slice none 0 0, Value.int IntKind.i64 0] 46) b_4 w1 → ∃ (w1_3 : World), St Try.prog 46 w1
 (Addr.mk b_4 0 none) (Value.agg #[Value.slice a l c, Value.slice a_4 l_3 c_3, Value.int IntKind.i64 i]) w1_3 ∧ ∃ (i : Int), ∃ (i_14 : Int), ∃ (b_5 : Bool), ∃ (i_15 : Int), ∃ (i_16 : Int), ∃ (i_17 :
 Int), ∃ (s_5 : ByteArray), ∃ (s_6 : ByteArray), ∃ (i_18 : Int), Ld Try.prog 30 w1_3 (Addr.mk b_2 0 none) (Value.agg #[Value.int IntKind.i64 i, Value.int IntKind.i64 i_14, Value.bool b_5,
 Value.int IntKind.i64 i_15, Value.int IntKind.i64 i_16, Value.int IntKind.i64 i_17, Value.string s_5, Value.string s_6, Value.int IntKind.i64 i_18]) ∧ CallV Try.prog 11 [Value.pointer p,
 Value.agg #[Value.int IntKind.i64 i, Value.int IntKind.i64 i_14, Value.bool b_5, Value.int IntKind.i64 i_15, Value.int IntKind.i64 i_16, Value.int IntKind.i64 i_17, Value.string s_5, Value.string s_6,
 Value.int IntKind.i64 i_18]] w1_3 fun (e : Ending) (w' : World) ↦ ∃ (i : Int), e = Ending.returned (Value.int IntKind.i64 i) ∧ onP p fun (a : Addr) ↦ ∃ (p : Option Addr), Ld Try.prog 32 w' a
 (Value.pointer p) ∧ CallV Try.prog 21 [Value.pointer p, Value.int IntKind.i64 0] w' fun (e : Ending) (w' : World) ↦ e = Ending.returned (Value.tuple #[]) ∧ br (decide (i = i_13)) (∃ (a :
 Option Addr), ∃ (l : Nat), ∃ (c : Nat), ∃ (a_6 : Option Addr), ∃ (l_4 : Nat), ∃ (c_4 : Nat), ∃ (i : Int), Ld Try.prog 46 w' (Addr.mk b_4 0 none) (Value.agg #[Value.slice a l c, Value.slice
 a_6 l_4 c_4, Value.int IntKind.i64 i]) ∧ ∃ (w1 : World), St Try.prog 46 w' (Addr.mk b 0 none) (Value.agg #[Value.slice a l c, Value.slice a_6 l_4 c_4, Value.int IntKind.i64 i]) w1 ∧ inR
 IntKind.i64 (s + (1 : Int)) ∧ next (s + (1 : Int)) w1) (br (!decide (i = (95 : Int))) (R (Ending.returned (Value.bool false)) w') (inR IntKind.i64 (s + (1 : Int)) ∧ next (s + (1 : Int)) w'))) (∃ a l c
 a_3 l_2 c_2 i, Ld Try.prog 46 w1_2 (Addr.mk b 0 none) (Value.agg #[Value.slice a l c, Value.slice a_3 l_2 c_2, Value.int IntKind.i64 i]) ∧ ∃ i_7 i_8 b_3 i_9 i_10 i_11 s_3 s_4 i_12, Ld
 Try.prog 30 w1_2 (Addr.mk b_2 0 none) (Value.agg #[Value.int IntKind.i64 i_7, Value.int IntKind.i64 i_8, Value.bool b_3, Value.int IntKind.i64 i_9, Value.int IntKind.i64 i_10, Value.int
 IntKind.i64 i_11, Value.string s_3, Value.string s_4, Value.int IntKind.i64 i_12]) ∧ CallV Try.prog 15 [Value.agg #[Value.slice a l c, Value.slice a_3 l_2 c_2, Value.int IntKind.i64 i],
 Value.agg #[Value.int IntKind.i64 i_7, Value.int IntKind.i64 i_8, Value.bool b_3, Value.int IntKind.i64 i_9, Value.int IntKind.i64 i_10, Value.int IntKind.i64 i_11, Value.string s_3, Value.string s_4,
 Value.int IntKind.i64 i_12]] w1_2 fun e w' ↦ ∃ a l c a_4 l_3 c_3 i i_13, e = Ending.returned (Value.tuple #[Value.agg #[Value.slice a l c, Value.slice a_4 l_3 c_3, Value.int IntKind.i64 i], Value.int
 IntKind.i64 i_13]) ∧ ∀ (b_4 : Nat) (w1 : World), New w' (Obj.cells #[Value.slice none 0 0, Value.slice none 0 0, Value.int IntKind.i64 0] 46) b_4 w1 → ∃ (w1_3 : World), St Try.prog 46 w1
 (Addr.mk b_4 0 none) (Value.agg #[Value.slice a l c, Value.slice a_4 l_3 c_3, Value.int IntKind.i64 i]) w1_3 ∧ ∃ i, ∃ (i_14 : Int), ∃ (b_5 : Bool), ∃ (i_15 : Int), ∃ (i_16 : Int), ∃ (i_17 : Int), ∃
 (s_5 : ByteArray), ∃ (s_6 : ByteArray), ∃ (i_18 : Int), Ld Try.prog 30 w1_3 (Addr.mk b_2 0 none) (Value.agg #[Value.int IntKind.i64 i, Value.int IntKind.i64 i_14, Value.bool b_5, Value.int
 IntKind.i64 i_15, Value.int IntKind.i64 i_16, Value.int IntKind.i64 i_17, Value.string s_5, Value.string s_6, Value.int IntKind.i64 i_18]) ∧ CallV Try.prog 11 [Value.pointer p, Value.agg
 #[Value.int IntKind.i64 i, Value.int IntKind.i64 i_14, Value.bool b_5, Value.int IntKind.i64 i_15, Value.int IntKind.i64 i_16, Value.int IntKind.i64 i_17, Value.string s_5, Value.string s_6, Value.int
 IntKind.i64 i_18]] w1_3 fun (e : Ending) (w' : World) ↦ ∃ (i : Int), e = Ending.returned (Value.int IntKind.i64 i) ∧ onP p fun (a : Addr) ↦ ∃ (p : Option Addr), Ld Try.prog 32 w' a
 (Value.pointer p) ∧ CallV Try.prog 21 [Value.pointer p, Value.int IntKind.i64 0] w' fun (e : Ending) (w' : World) ↦ e = Ending.returned (Value.tuple #[]) ∧ br (decide (i = i_13)) (∃ (a :
 Option Addr), ∃ (l : Nat), ∃ (c : Nat), ∃ (a_6 : Option Addr), ∃ (l_4 : Nat), ∃ (c_4 : Nat), ∃ (i : Int), Ld Try.prog 46 w' (Addr.mk b_4 0 none) (Value.agg #[Value.slice a l c, Value.slice
 a_6 l_4 c_4, Value.int IntKind.i64 i]) ∧ ∃ (w1 : World), St Try.prog 46 w' (Addr.mk b 0 none) (Value.agg #[Value.slice a l c, Value.slice a_6 l_4 c_4, Value.int IntKind.i64 i]) w1 ∧ inR
 IntKind.i64 (s + (1 : Int)) ∧ next (s + (1 : Int)) w1) (br (!decide (i = (95 : Int))) (R (Ending.returned (Value.bool false)) w') (inR IntKind.i64 (s + (1 : Int)) ∧ next (s + (1 : Int)) w'))))))) (br
 (decide (s < (↑deniesn : Int))) (onP p fun a ↦ ∃ p_1, Ld Try.prog 32 (World.drew w1_2) a (Value.pointer p_1) ∧ onP deniesa fun a ↦ ((0 : Int) ≤ s ∧ s < (↑deniesn : Int)) ∧ ∃ i, Ld
 Try.prog 3 (World.drew w1_2) (Addr.add a (Int.toNat s * 1)) (Value.int IntKind.i64 i) ∧ CallV Try.prog 21 [Value.pointer p_1, Value.int IntKind.i64 i] (World.drew w1_2) fun e w' ↦
 e = Ending.returned (Value.tuple #[]) ∧ ∃ a l c a_3 l_2 c_2 i, Ld Try.prog 46 w' (Addr.mk b 0 none) (Value.agg #[Value.slice a l c, Value.slice a_3 l_2 c_2, Value.int IntKind.i64 i]) ∧ ∃ i_6
 i_7 b_3 i_8 i_9 i_10 s_3 s_4 i_11, Ld Try.prog 30 w' (Addr.mk b_2 0 none) (Value.agg #[Value.int IntKind.i64 i_6, Value.int IntKind.i64 i_7, Value.bool b_3, Value.int IntKind.i64 i_8,
 Value.int IntKind.i64 i_9, Value.int IntKind.i64 i_10, Value.string s_3, Value.string s_4, Value.int IntKind.i64 i_11]) ∧ CallV Try.prog 15 [Value.agg #[Value.slice a l c, Value.slice a_3
 l_2 c_2, Value.int IntKind.i64 i], Value.agg #[Value.int IntKind.i64 i_6, Value.int IntKind.i64 i_7, Value.bool b_3, Value.int IntKind.i64 i_8, Value.int IntKind.i64 i_9, Value.int IntKind.i64 i_10,
 Value.string s_3, Value.string s_4, Value.int IntKind.i64 i_11]] w' fun e w' ↦ ∃ a l c a_4 l_3 c_3 i i_12, e = Ending.returned (Value.tuple #[Value.agg #[Value.slice a l c, Value.slice a_4 l_3 c_3,
 Value.int IntKind.i64 i], Value.int IntKind.i64 i_12]) ∧ ∀ b_4 w1, New w' (Obj.cells #[Value.slice none 0 0, Value.slice none 0 0, Value.int IntKind.i64 0] 46) b_4 w1 → ∃ w1_3, St Try.prog
 46 w1 (Addr.mk b_4 0 none) (Value.agg #[Value.slice a l c, Value.slice a_4 l_3 c_3, Value.int IntKind.i64 i]) w1_3 ∧ ∃ i i_13 b_5 i_14 i_15 i_16, ∃ (s_5 : ByteArray), ∃ (s_6 : ByteArray), ∃ (i_17 :
 Int), Ld Try.prog 30 w1_3 (Addr.mk b_2 0 none) (Value.agg #[Value.int IntKind.i64 i, Value.int IntKind.i64 i_13, Value.bool b_5, Value.int IntKind.i64 i_14, Value.int IntKind.i64 i_15,
 Value.int IntKind.i64 i_16, Value.string s_5, Value.string s_6, Value.int IntKind.i64 i_17]) ∧ CallV Try.prog 11 [Value.pointer p, Value.agg #[Value.int IntKind.i64 i, Value.int IntKind.i64
 i_13, Value.bool b_5, Value.int IntKind.i64 i_14, Value.int IntKind.i64 i_15, Value.int IntKind.i64 i_16, Value.string s_5, Value.string s_6, Value.int IntKind.i64 i_17]] w1_3 fun (e : Ending) (w' :
 World) ↦ ∃ (i : Int), e = Ending.returned (Value.int IntKind.i64 i) ∧ onP p fun (a : Addr) ↦ ∃ (p : Option Addr), Ld Try.prog 32 w' a (Value.pointer p) ∧ CallV Try.prog 21
 [Value.pointer p, Value.int IntKind.i64 0] w' fun (e : Ending) (w' : World) ↦ e = Ending.returned (Value.tuple #[]) ∧ br (decide (i = i_12)) (∃ (a : Option Addr), ∃ (l : Nat), ∃ (c : Nat), ∃ (a_6 :
 Option Addr), ∃ (l_4 : Nat), ∃ (c_4 : Nat), ∃ (i : Int), Ld Try.prog 46 w' (Addr.mk b_4 0 none) (Value.agg #[Value.slice a l c, Value.slice a_6 l_4 c_4, Value.int IntKind.i64 i]) ∧ ∃ (w1 :
 World), St Try.prog 46 w' (Addr.mk b 0 none) (Value.agg #[Value.slice a l c, Value.slice a_6 l_4 c_4, Value.int IntKind.i64 i]) w1 ∧ inR IntKind.i64 (s + (1 : Int)) ∧ next (s + (1 : Int))
 w1) (br (!decide (i = (95 : Int))) (R (Ending.returned (Value.bool false)) w') (inR IntKind.i64 (s + (1 : Int)) ∧ next (s + (1 : Int)) w'))) (∃ a l c a_3 l_2 c_2 i, Ld Try.prog 46 w1_2
 (Addr.mk b 0 none) (Value.agg #[Value.slice a l c, Value.slice a_3 l_2 c_2, Value.int IntKind.i64 i]) ∧ ∃ i_6 i_7 b_3 i_8 i_9 i_10 s_3 s_4 i_11, Ld Try.prog 30 w1_2 (Addr.mk b_2 0 none)
 (Value.agg #[Value.int IntKind.i64 i_6, Value.int IntKind.i64 i_7, Value.bool b_3, Value.int IntKind.i64 i_8, Value.int IntKind.i64 i_9, Value.int IntKind.i64 i_10, Value.string s_3, Value.string s_4,
 Value.int IntKind.i64 i_11]) ∧ CallV Try.prog 15 [Value.agg #[Value.slice a l c, Value.slice a_3 l_2 c_2, Value.int IntKind.i64 i], Value.agg #[Value.int IntKind.i64 i_6, Value.int
 IntKind.i64 i_7, Value.bool b_3, Value.int IntKind.i64 i_8, Value.int IntKind.i64 i_9, Value.int IntKind.i64 i_10, Value.string s_3, Value.string s_4, Value.int IntKind.i64 i_11]] w1_2 fun e w' ↦ ∃ a
 l c a_4 l_3 c_3 i i_12, e = Ending.returned (Value.tuple #[Value.agg #[Value.slice a l c, Value.slice a_4 l_3 c_3, Value.int IntKind.i64 i], Value.int IntKind.i64 i_12]) ∧ ∀ b_4 w1, New w' (Obj.cells
 #[Value.slice none 0 0, Value.slice none 0 0, Value.int IntKind.i64 0] 46) b_4 w1 → ∃ w1_3, St Try.prog 46 w1 (Addr.mk b_4 0 none) (Value.agg #[Value.slice a l c, Value.slice a_4 l_3 c_3,
 Value.int IntKind.i64 i]) w1_3 ∧ ∃ i i_13 b_5 i_14 i_15 i_16 s_5 s_6 i_17, Ld Try.prog 30 w1_3 (Addr.mk b_2 0 none) (Value.agg #[Value.int IntKind.i64 i, Value.int IntKind.i64 i_13,
 Value.bool b_5, Value.int IntKind.i64 i_14, Value.int IntKind.i64 i_15, Value.int IntKind.i64 i_16, Value.string s_5, Value.string s_6, Value.int IntKind.i64 i_17]) ∧ CallV Try.prog 11
 [Value.pointer p, Value.agg #[Value.int IntKind.i64 i, Value.int IntKind.i64 i_13, Value.bool b_5, Value.int IntKind.i64 i_14, Value.int IntKind.i64 i_15, Value.int IntKind.i64 i_16, Value.string s_5,
 Value.string s_6, Value.int IntKind.i64 i_17]] w1_3 fun (e : Ending) (w' : World) ↦ ∃ i, e = Ending.returned (Value.int IntKind.i64 i) ∧ onP p fun a ↦ ∃ (p : Option Addr), Ld Try.prog 32 w'
 a (Value.pointer p) ∧ CallV Try.prog 21 [Value.pointer p, Value.int IntKind.i64 0] w' fun (e : Ending) (w' : World) ↦ e = Ending.returned (Value.tuple #[]) ∧ br (decide (i = i_12)) (∃ (a :
 Option Addr), ∃ (l : Nat), ∃ (c : Nat), ∃ (a_6 : Option Addr), ∃ (l_4 : Nat), ∃ (c_4 : Nat), ∃ (i : Int), Ld Try.prog 46 w' (Addr.mk b_4 0 none) (Value.agg #[Value.slice a l c, Value.slice
 a_6 l_4 c_4, Value.int IntKind.i64 i]) ∧ ∃ (w1 : World), St Try.prog 46 w' (Addr.mk b 0 none) (Value.agg #[Value.slice a l c, Value.slice a_6 l_4 c_4, Value.int IntKind.i64 i]) w1 ∧ inR
 IntKind.i64 (s + (1 : Int)) ∧ next (s + (1 : Int)) w1) (br (!decide (i = (95 : Int))) (R (Ending.returned (Value.bool false)) w') (inR IntKind.i64 (s + (1 : Int)) ∧ next (s + (1 : Int)) w'))))) (CallV
 Try.prog 9 [] w' fun e w' ↦ ∃ b_1, e = Ending.returned (Value.bool b_1) ∧ br b_1 (∃ a l c a_3 l_2 c_2 i, Ld Try.prog 46 w' (Addr.mk b 0 none) (Value.agg #[Value.slice a l c,
 Value.slice a_3 l_2 c_2, Value.int IntKind.i64 i]) ∧ CallV Try.prog 19 [Value.pointer p, Value.agg #[Value.slice a l c, Value.slice a_3 l_2 c_2, Value.int IntKind.i64 i]] w' fun e w' ↦ ∃ b,
 e = Ending.returned (Value.bool b) ∧ R (Ending.returned (Value.bool b)) w') (R (Ending.returned (Value.bool false)) w'))) (0 : Int) w1_1))) fun (J : Bool → World → Prop) ↦ br (decide (many < (4 :
 Int))) (J true w) (br (decide ((64 : Int) < many)) (J true w) (CallV Try.prog 8 [Value.slice scripta scriptn scriptc] w fun e w' ↦ ∃ b, e = Ending.returned (Value.bool b) ∧ br (!b) (J true
 w') (J (decide ((300 : Int) < (↑deniesn : Int))) w')))
theorem framesFails.eq (many : Int) (scripta : Option Addr) (scriptn : Nat) (scriptc : Nat) (deniesa : Option Addr) (deniesn : Nat) (deniesc : Nat) (w : World) (R : Ending → World → Prop) : bodyV Try.prog framesFails.an Try.f7 [.int .i64 many, .slice scripta scriptn scriptc, .slice deniesa deniesn deniesc] w R = framesFails.vc many scripta scriptn scriptc deniesa deniesn deniesc w R := by kernel_rfl
theorem framesFails.ok (many : Int) (scripta : Option Addr) (scriptn : Nat) (scriptc : Nat) (deniesa : Option Addr) (deniesn : Nat) (deniesc : Nat) (w : World) (R : Ending → World → Prop) (h : framesFails.vc many scripta scriptn scriptc deniesa deniesn deniesc w R) : Calls Try.prog 7 #[.int .i64 many, .slice scripta scriptn scriptc, .slice deniesa deniesn deniesc] w R :=
  calls_of_bodyV noNum (an := framesFails.an) (args := [.int .i64 many, .slice scripta scriptn scriptc, .slice deniesa deniesn deniesc]) Try.func7 (by kernel_rfl) ((framesFails.eq many scripta scriptn scriptc deniesa deniesn deniesc w R).mpr h)

end Go.Proofs.Ytiagjabdfppgkaa
