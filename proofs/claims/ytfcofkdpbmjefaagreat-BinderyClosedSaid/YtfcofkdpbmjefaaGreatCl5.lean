/- Part 5: Of each function the statement that the calculus reckons, printed by a program, and that it is that statement. The library's sorts, clones and iterators of maps, at this program's numbers. The evaluator's functions of the library: maps.Clone's inner one, IndexByteString, strings.Builder. The evaluator's calls: all of them. -/
import Derived.Test.YtfcofkdpbmjefaaGreatCl4
import Derived.Test.YtfcofkdpbmjefaaGreatChecked
import Derived.Shelf.Strings.Builder1
import Derived.Shelf.SlIter.Nil
import Derived.Shelf.SlIterI.Nil
import Derived.Shelf.SortM.Plain
import Derived.Shelf.SortM.SortNone
import Derived.Shelf.SlMaps.Clone
import Derived.Lib.Bytealg
set_option linter.unusedVariables false
set_option maxRecDepth 100000
set_option linter.unusedSimpArgs false
namespace Go.Proofs.YtfcofkdpbmjefaaGreat
open Go Go.Vc
theorem noNum : NoNum Tryz.prog := by
  have h : Tryz.prog.funcs.toList.all (fun fn => !(fn.name == "runtime.NumGoroutine")) = true := by kernel_rfl
  intro f fn hf
  have := List.all_eq_true.1 h fn (by have := Array.mem_of_getElem? hf; simpa using this)
  simpa using this
def bClosed.an : An := { wraps := [], loops := [(5, [(27, .inl .i64)])], joins := [], ranges := [] }
def bClosed.vc (scripta : Option Addr) (scriptn : Nat) (scriptc : Nat) (w : World) (R : Ending → World → Prop) : Prop := CallV Tryz.prog 4 [Value.int IntKind.i64 30000] w fun e w' ↦ ∃ p, e = Ending.returned (Value.pointer p) ∧ ∃ b, Eqv Tryz.prog BinOp.eql 23 (Operand.tmp 8) (Operand.const (Value.pointer
 none)) w' (Value.pointer p) (Value.pointer none) b ∧ br b (∃ b, Eqv Tryz.prog BinOp.neq 23 (Operand.tmp 20) (Operand.const (Value.pointer none)) w' (Value.pointer p) (Value.pointer none) b ∧
 br b (CallV Tryz.prog 7 [] w' fun e w' ↦ ∃ b, e = Ending.returned (Value.bool b) ∧ R (Ending.returned (Value.bool b)) w') (R (Ending.returned (Value.bool false)) w')) (CallV
 Tryz.prog 5 [Value.pointer p] w' fun e w' ↦ ∃ p_1, e = Ending.returned (Value.pointer p_1) ∧ ∃ b, Eqv Tryz.prog BinOp.eql 25 (Operand.tmp 12) (Operand.const (Value.pointer none)) w'
 (Value.pointer p_1) (Value.pointer none) b ∧ br b (∃ b, Eqv Tryz.prog BinOp.neq 23 (Operand.tmp 20) (Operand.const (Value.pointer none)) w' (Value.pointer p) (Value.pointer none) b ∧ br b
 (CallV Tryz.prog 7 [] w' fun e w' ↦ ∃ b, e = Ending.returned (Value.bool b) ∧ R (Ending.returned (Value.bool b)) w') (R (Ending.returned (Value.bool false)) w')) (CallV Tryz.prog 6
 [Value.slice scripta scriptn scriptc] w' fun e w' ↦ ∃ b, e = Ending.returned (Value.bool b) ∧ br (!b) (∃ b, Eqv Tryz.prog BinOp.neq 23 (Operand.tmp 20) (Operand.const (Value.pointer none)) w'
 (Value.pointer p) (Value.pointer none) b ∧ br b (CallV Tryz.prog 7 [] w' fun e w' ↦ ∃ b, e = Ending.returned (Value.bool b) ∧ R (Ending.returned (Value.bool b)) w') (R (Ending.returned
 (Value.bool false)) w')) (LoopP (fun (s : Int) (w' : World) (next : Int → World → Prop) ↦ br (decide (s < (↑scriptn : Int))) (onP scripta fun a ↦ ((0 : Int) ≤ s ∧ s < (↑scriptn : Int)) ∧ ∃ i i_1 s_1
 i_2 i_3 i_4 i_5 s_2 s_3 a_1 l c a_2 l_1 c_1, Ld Tryz.prog 34 w' (Addr.add a (Int.toNat s * 11)) (Value.agg #[Value.int IntKind.i64 i, Value.int IntKind.i64 i_1, Value.string s_1, Value.int
 IntKind.i64 i_2, Value.int IntKind.i64 i_3, Value.int IntKind.i64 i_4, Value.int IntKind.i64 i_5, Value.string s_2, Value.string s_3, Value.slice a_1 l c, Value.slice a_2 l_1 c_1]) ∧ ∀ b w1, New w'
 (Obj.cells #[Value.int IntKind.i64 0, Value.int IntKind.i64 0, Value.string (ByteArray.mk #[]), Value.int IntKind.i64 0, Value.int IntKind.i64 0, Value.int IntKind.i64 0, Value.int IntKind.i64 0,
 Value.string (ByteArray.mk #[]), Value.string (ByteArray.mk #[]), Value.slice none 0 0, Value.slice none 0 0] 34) b w1 → ∃ w1_1, St Tryz.prog 34 w1 (Addr.mk b 0 none) (Value.agg #[Value.int
 IntKind.i64 i, Value.int IntKind.i64 i_1, Value.string s_1, Value.int IntKind.i64 i_2, Value.int IntKind.i64 i_3, Value.int IntKind.i64 i_4, Value.int IntKind.i64 i_5, Value.string s_2, Value.string
 s_3, Value.slice a_1 l c, Value.slice a_2 l_1 c_1]) w1_1 ∧ ∃ i i_6 s_4 i_7 i_8 i_9 i_10 s_5 s_6 a l c a_3 l_2 c_2, Ld Tryz.prog 34 w1_1 (Addr.mk b 0 none) (Value.agg #[Value.int IntKind.i64
 i, Value.int IntKind.i64 i_6, Value.string s_4, Value.int IntKind.i64 i_7, Value.int IntKind.i64 i_8, Value.int IntKind.i64 i_9, Value.int IntKind.i64 i_10, Value.string s_5, Value.string s_6,
 Value.slice a l c, Value.slice a_3 l_2 c_2]) ∧ CallV Tryz.prog 8 [Value.agg #[Value.int IntKind.i64 i, Value.int IntKind.i64 i_6, Value.string s_4, Value.int IntKind.i64 i_7, Value.int
 IntKind.i64 i_8, Value.int IntKind.i64 i_9, Value.int IntKind.i64 i_10, Value.string s_5, Value.string s_6, Value.slice a l c, Value.slice a_3 l_2 c_2]] w1_1 fun e w' ↦ ∃ b_1, e = Ending.returned
 (Value.bool b_1) ∧ br b_1 (inR IntKind.i64 (s + (1 : Int)) ∧ next (s + (1 : Int)) w') (∃ i, Ld Tryz.prog 3 w' (Addr.mk b 0 none) (Value.int IntKind.i64 i) ∧ br (decide (i = (1 : Int))) (inR
 IntKind.i64 (s + (1 : Int)) ∧ next (s + (1 : Int)) w') (∃ i i_11 s_7 i_12 i_13 i_14 i_15 s_8 s_9 a l c a_4 l_3 c_3, Ld Tryz.prog 34 w' (Addr.mk b 0 none) (Value.agg #[Value.int IntKind.i64 i,
 Value.int IntKind.i64 i_11, Value.string s_7, Value.int IntKind.i64 i_12, Value.int IntKind.i64 i_13, Value.int IntKind.i64 i_14, Value.int IntKind.i64 i_15, Value.string s_8, Value.string s_9,
 Value.slice a l c, Value.slice a_4 l_3 c_3]) ∧ CallV Tryz.prog 10 [Value.agg #[Value.int IntKind.i64 i, Value.int IntKind.i64 i_11, Value.string s_7, Value.int IntKind.i64 i_12, Value.int
 IntKind.i64 i_13, Value.int IntKind.i64 i_14, Value.int IntKind.i64 i_15, Value.string s_8, Value.string s_9, Value.slice a l c, Value.slice a_4 l_3 c_3]] w' fun e w' ↦ ∃ i i_16 s_10 i_17 i_18 i_19
 i_20 s_11 s_12 a l c, ∃ (a_5 : Option Addr), ∃ (l_4 : Nat), ∃ (c_4 : Nat), e = Ending.returned (Value.agg #[Value.int IntKind.i64 i, Value.int IntKind.i64 i_16, Value.string s_10, Value.int
 IntKind.i64 i_17, Value.int IntKind.i64 i_18, Value.int IntKind.i64 i_19, Value.int IntKind.i64 i_20, Value.string s_11, Value.string s_12, Value.slice a l c, Value.slice a_5 l_4 c_4]) ∧ CallV
 Tryz.prog 9 [Value.pointer p, Value.agg #[Value.int IntKind.i64 i, Value.int IntKind.i64 i_16, Value.string s_10, Value.int IntKind.i64 i_17, Value.int IntKind.i64 i_18, Value.int IntKind.i64
 i_19, Value.int IntKind.i64 i_20, Value.string s_11, Value.string s_12, Value.slice a l c, Value.slice a_5 l_4 c_4]] w' fun (e : Ending) (w' : World) ↦ ∃ (i : Int), ∃ (i_21 : Int), ∃ (a : Option
 Addr), ∃ (l : Nat), ∃ (c : Nat), ∃ (i_22 : Int), e = Ending.returned (Value.agg #[Value.int IntKind.i64 i, Value.int IntKind.i64 i_21, Value.slice a l c, Value.int IntKind.i64 i_22]) ∧ ∀ (b : Nat) (w1
 : World), New w' (Obj.cells #[Value.int IntKind.i64 0, Value.int IntKind.i64 0, Value.slice none 0 0, Value.int IntKind.i64 0] 38) b w1 → ∃ (w1_2 : World), St Tryz.prog 38 w1 (Addr.mk b 0
 none) (Value.agg #[Value.int IntKind.i64 i, Value.int IntKind.i64 i_21, Value.slice a l c, Value.int IntKind.i64 i_22]) w1_2 ∧ ∃ (i : Int), Ld Tryz.prog 36 w1_2 (Addr.mk b 0 none) (Value.int
 IntKind.i64 i) ∧ br (!decide (i = (1 : Int))) (R (Ending.returned (Value.bool false)) w1_2) (∃ (i : Int), Ld Tryz.prog 3 w1_2 (Addr.mk b 1 none) (Value.int IntKind.i64 i) ∧ br (!decide (i =
 (0 : Int))) (R (Ending.returned (Value.bool false)) w1_2) (∃ (a : Option Addr), ∃ (l : Nat), ∃ (c : Nat), Ld Tryz.prog 32 w1_2 (Addr.mk b 2 none) (Value.slice a l c) ∧ br (decide ((0 : Int) <
 (↑l : Int))) (R (Ending.returned (Value.bool false)) w1_2) (CallV Tryz.prog 11 [Value.pointer p] w1_2 fun (e : Ending) (w' : World) ↦ ∃ (p_2 : Option Addr), e = Ending.returned (Value.pointer
 p_2) ∧ ∃ (b : Bool), Eqv Tryz.prog BinOp.neq 45 (Operand.tmp 58) (Operand.const (Value.pointer none)) w' (Value.pointer p_2) (Value.pointer none) b ∧ br b (R (Ending.returned (Value.bool
 false)) w') (CallV Tryz.prog 5 [Value.pointer p] w' fun (e : Ending) (w' : World) ↦ ∃ (p : Option Addr), e = Ending.returned (Value.pointer p) ∧ CallV Tryz.prog 12 [Value.pointer p]
 w' fun (e : Ending) (w' : World) ↦ ∃ (a : Option Addr), ∃ (l : Nat), ∃ (c : Nat), e = Ending.returned (Value.slice a l c) ∧ br (decide ((0 : Int) < (↑l : Int))) (R (Ending.returned (Value.bool false))
 w') (inR IntKind.i64 (s + (1 : Int)) ∧ next (s + (1 : Int)) w')))))))) (CallV Tryz.prog 7 [] w' fun e w' ↦ ∃ b, e = Ending.returned (Value.bool b) ∧ R (Ending.returned (Value.bool b)) w')) (0
 : Int) w')))
theorem bClosed.eq (scripta : Option Addr) (scriptn : Nat) (scriptc : Nat) (w : World) (R : Ending → World → Prop) : bodyV Tryz.prog bClosed.an Tryz.f3 [.slice scripta scriptn scriptc] w R = bClosed.vc scripta scriptn scriptc w R := by kernel_rfl
theorem bClosed.ok (scripta : Option Addr) (scriptn : Nat) (scriptc : Nat) (w : World) (R : Ending → World → Prop) (h : bClosed.vc scripta scriptn scriptc w R) : Calls Tryz.prog 3 #[.slice scripta scriptn scriptc] w R :=
  calls_of_bodyV noNum (an := bClosed.an) (args := [.slice scripta scriptn scriptc]) Tryz.func3 (by kernel_rfl) ((bClosed.eq scripta scriptn scriptc w R).mpr h)
def bNew.an : An := { wraps := [], loops := [], joins := [], ranges := [] }
def bNew.vc (room : Int) (w : World) (R : Ending → World → Prop) : Prop := CallV Tryz.prog 13 [Value.int IntKind.i64 room] w fun e w' ↦ ∃ p, e = Ending.returned (Value.pointer p) ∧ ∀ b w1, New w' (Obj.cells #[Value.pointer p, Value.pointer none] 51) b w1 → R
 (Ending.returned (Value.pointer (some (Addr.mk b 0 none)))) w1
theorem bNew.eq (room : Int) (w : World) (R : Ending → World → Prop) : bodyV Tryz.prog bNew.an Tryz.f4 [.int .i64 room] w R = bNew.vc room w R := by kernel_rfl
theorem bNew.ok (room : Int) (w : World) (R : Ending → World → Prop) (h : bNew.vc room w R) : Calls Tryz.prog 4 #[.int .i64 room] w R :=
  calls_of_bodyV noNum (an := bNew.an) (args := [.int .i64 room]) Tryz.func4 (by kernel_rfl) ((bNew.eq room w R).mpr h)
def bDisk.an : An := { wraps := [], loops := [], joins := [], ranges := [] }
def bDisk.vc (w_ : Option Addr) (w : World) (R : Ending → World → Prop) : Prop := onP w_ fun a ↦ ∃ p, Ld Tryz.prog 25 w a (Value.pointer p) ∧ R (Ending.returned (Value.pointer p)) w
theorem bDisk.eq (w_ : Option Addr) (w : World) (R : Ending → World → Prop) : bodyV Tryz.prog bDisk.an Tryz.f5 [.pointer w_] w R = bDisk.vc w_ w R := by kernel_rfl
theorem bDisk.ok (w_ : Option Addr) (w : World) (R : Ending → World → Prop) (h : bDisk.vc w_ w R) : Calls Tryz.prog 5 #[.pointer w_] w R :=
  calls_of_bodyV noNum (an := bDisk.an) (args := [.pointer w_]) Tryz.func5 (by kernel_rfl) ((bDisk.eq w_ w R).mpr h)
def bStore.an : An := { wraps := [], loops := [], joins := [], ranges := [] }
def bStore.vc (w_ : Option Addr) (w : World) (R : Ending → World → Prop) : Prop := onP w_ fun a ↦ ∃ p, Ld Tryz.prog 45 w (Addr.add a 1) (Value.pointer p) ∧ R (Ending.returned (Value.pointer p)) w
theorem bStore.eq (w_ : Option Addr) (w : World) (R : Ending → World → Prop) : bodyV Tryz.prog bStore.an Tryz.f11 [.pointer w_] w R = bStore.vc w_ w R := by kernel_rfl
theorem bStore.ok (w_ : Option Addr) (w : World) (R : Ending → World → Prop) (h : bStore.vc w_ w R) : Calls Tryz.prog 11 #[.pointer w_] w R :=
  calls_of_bodyV noNum (an := bStore.an) (args := [.pointer w_]) Tryz.func11 (by kernel_rfl) ((bStore.eq w_ w R).mpr h)
def bDo.an : An := { wraps := [], loops := [], joins := [], ranges := [] }
def bDo.vc (w_ : Option Addr) (s_Kind : Int) (s_N : Int) (s_S : ByteArray) (s_E_Kind : Int) (s_E_Id : Int) (s_E_To : Int) (s_E_At : Int) (s_E_Name : ByteArray) (s_E_Text : ByteArray) (s_E_Itemsa : Option Addr) (s_E_Itemsn : Nat) (s_E_Itemsc : Nat) (s_Picksa : Option Addr) (s_Picksn : Nat) (s_Picksc : Nat) (w : World) (R : Ending → World → Prop) : Prop := ∀ b w1, New w (Obj.cells #[Value.int IntKind.i64 s_Kind, Value.int IntKind.i64 s_N, Value.string s_S, Value.int IntKind.i64 s_E_Kind, Value.int IntKind.i64 s_E_Id, Value.int IntKind.i64 s_E_To,
 Value.int IntKind.i64 s_E_At, Value.string s_E_Name, Value.string s_E_Text, Value.slice s_E_Itemsa s_E_Itemsn s_E_Itemsc, Value.slice s_Picksa s_Picksn s_Picksc] 43) b w1 → ∀ b_1 w1_1, New w1
 (Obj.cells #[Value.int IntKind.i64 0, Value.int IntKind.i64 0, Value.slice none 0 0, Value.int IntKind.i64 0] 38) b_1 w1_1 → ∃ i, Ld Tryz.prog 3 w1_1 (Addr.mk b 0 none) (Value.int IntKind.i64
 i) ∧ br (decide (i = (1 : Int))) (CallV Tryz.prog 17 [Value.pointer w_] w1_1 fun e w' ↦ ∃ i, e = Ending.returned (Value.int IntKind.i64 i) ∧ ∃ w1, St Tryz.prog 38 w' (Addr.mk b_1 0
 none) (Value.agg #[Value.int IntKind.i64 i, Value.int IntKind.i64 0, Value.slice none 0 0, Value.int IntKind.i64 0]) w1 ∧ ∃ i i_1 a l c i_2, Ld Tryz.prog 38 w1 (Addr.mk b_1 0 none) (Value.agg
 #[Value.int IntKind.i64 i, Value.int IntKind.i64 i_1, Value.slice a l c, Value.int IntKind.i64 i_2]) ∧ R (Ending.returned (Value.agg #[Value.int IntKind.i64 i, Value.int IntKind.i64 i_1, Value.slice a
 l c, Value.int IntKind.i64 i_2])) w1) (br (decide (i = (8 : Int))) (onP w_ fun a ↦ ∃ p, Ld Tryz.prog 25 (World.drew w1_1) a (Value.pointer p) ∧ ∃ i, Ld Tryz.prog 3 (World.drew w1_1)
 (Addr.mk b 1 none) (Value.int IntKind.i64 i) ∧ ∃ a l c, Ld Tryz.prog 32 (World.drew w1_1) (Addr.mk b 10 none) (Value.slice a l c) ∧ CallV Tryz.prog 18 [Value.pointer p, Value.int
 IntKind.i64 i, Value.slice a l c] (World.drew w1_1) fun e w' ↦ ∃ p, e = Ending.returned (Value.pointer p) ∧ onP w_ fun a ↦ ∃ w1, St Tryz.prog 45 w' (Addr.add a 1) (Value.pointer none) w1 ∧
 onP w_ fun a ↦ ∃ w1_2, St Tryz.prog 25 w1 a (Value.pointer p) w1_2 ∧ ∃ w1, St Tryz.prog 38 w1_2 (Addr.mk b_1 0 none) (Value.agg #[Value.int IntKind.i64 0, Value.int IntKind.i64 0,
 Value.slice none 0 0, Value.int IntKind.i64 0]) w1 ∧ ∃ i i_1 a l c i_2, Ld Tryz.prog 38 w1 (Addr.mk b_1 0 none) (Value.agg #[Value.int IntKind.i64 i, Value.int IntKind.i64 i_1, Value.slice a
 l c, Value.int IntKind.i64 i_2]) ∧ R (Ending.returned (Value.agg #[Value.int IntKind.i64 i, Value.int IntKind.i64 i_1, Value.slice a l c, Value.int IntKind.i64 i_2])) w1) (br (decide (i = (9 : Int)))
 (onP w_ fun a ↦ ∃ p, Ld Tryz.prog 25 (World.drew w1_1) a (Value.pointer p) ∧ ∃ i, Ld Tryz.prog 3 (World.drew w1_1) (Addr.mk b 1 none) (Value.int IntKind.i64 i) ∧ CallV
 Tryz.prog 19 [Value.pointer p, Value.int IntKind.i64 i] (World.drew w1_1) fun e w' ↦ e = Ending.returned (Value.tuple #[]) ∧ ∃ w1, St Tryz.prog 38 w' (Addr.mk b_1 0 none) (Value.agg
 #[Value.int IntKind.i64 0, Value.int IntKind.i64 0, Value.slice none 0 0, Value.int IntKind.i64 0]) w1 ∧ ∃ i i_1 a l c i_2, Ld Tryz.prog 38 w1 (Addr.mk b_1 0 none) (Value.agg #[Value.int
 IntKind.i64 i, Value.int IntKind.i64 i_1, Value.slice a l c, Value.int IntKind.i64 i_2]) ∧ R (Ending.returned (Value.agg #[Value.int IntKind.i64 i, Value.int IntKind.i64 i_1, Value.slice a l c,
 Value.int IntKind.i64 i_2])) w1) (br (decide (i = (10 : Int))) (onP w_ fun a ↦ ∃ p, Ld Tryz.prog 25 (World.drew w1_1) a (Value.pointer p) ∧ ∃ i, Ld Tryz.prog 3 (World.drew w1_1)
 (Addr.mk b 1 none) (Value.int IntKind.i64 i) ∧ CallV Tryz.prog 20 [Value.pointer p, Value.int IntKind.i64 i] (World.drew w1_1) fun e w' ↦ e = Ending.returned (Value.tuple #[]) ∧ ∃ w1, St
 Tryz.prog 38 w' (Addr.mk b_1 0 none) (Value.agg #[Value.int IntKind.i64 0, Value.int IntKind.i64 0, Value.slice none 0 0, Value.int IntKind.i64 0]) w1 ∧ ∃ i i_1 a l c i_2, Ld
 Tryz.prog 38 w1 (Addr.mk b_1 0 none) (Value.agg #[Value.int IntKind.i64 i, Value.int IntKind.i64 i_1, Value.slice a l c, Value.int IntKind.i64 i_2]) ∧ R (Ending.returned (Value.agg
 #[Value.int IntKind.i64 i, Value.int IntKind.i64 i_1, Value.slice a l c, Value.int IntKind.i64 i_2])) w1) (onP w_ fun a ↦ ∃ p, Ld Tryz.prog 45 w1_1 (Addr.add a 1) (Value.pointer p) ∧ ∃ b_2,
 Eqv Tryz.prog BinOp.eql 45 (Operand.tmp 10) (Operand.const (Value.pointer none)) w1_1 (Value.pointer p) (Value.pointer none) b_2 ∧ br b_2 (∃ w1, St Tryz.prog 38 w1_1 (Addr.mk b_1 0
 none) (Value.agg #[Value.int IntKind.i64 1, Value.int IntKind.i64 0, Value.slice none 0 0, Value.int IntKind.i64 0]) w1 ∧ ∃ i i_1 a l c i_2, Ld Tryz.prog 38 w1 (Addr.mk b_1 0 none) (Value.agg
 #[Value.int IntKind.i64 i, Value.int IntKind.i64 i_1, Value.slice a l c, Value.int IntKind.i64 i_2]) ∧ R (Ending.returned (Value.agg #[Value.int IntKind.i64 i, Value.int IntKind.i64 i_1, Value.slice a
 l c, Value.int IntKind.i64 i_2])) w1) (∃ i i_1 s i_2 i_3 i_4 i_5 s_1 s_2 a l c a_1 l_1 c_1, Ld Tryz.prog 43 w1_1 (Addr.mk b 0 none) (Value.agg #[Value.int IntKind.i64 i, Value.int IntKind.i64
 i_1, Value.string s, Value.int IntKind.i64 i_2, Value.int IntKind.i64 i_3, Value.int IntKind.i64 i_4, Value.int IntKind.i64 i_5, Value.string s_1, Value.string s_2, Value.slice a l c, Value.slice a_1
 l_1 c_1]) ∧ CallV Tryz.prog 21 [Value.pointer w_, Value.agg #[Value.int IntKind.i64 i, Value.int IntKind.i64 i_1, Value.string s, Value.int IntKind.i64 i_2, Value.int IntKind.i64 i_3,
 Value.int IntKind.i64 i_4, Value.int IntKind.i64 i_5, Value.string s_1, Value.string s_2, Value.slice a l c, Value.slice a_1 l_1 c_1]] w1_1 fun e w' ↦ ∃ i i_6 a l c i_7, e = Ending.returned (Value.agg
 #[Value.int IntKind.i64 i, Value.int IntKind.i64 i_6, Value.slice a l c, Value.int IntKind.i64 i_7]) ∧ ∃ w1, St Tryz.prog 38 w' (Addr.mk b_1 0 none) (Value.agg #[Value.int IntKind.i64 i,
 Value.int IntKind.i64 i_6, Value.slice a l c, Value.int IntKind.i64 i_7]) w1 ∧ ∃ i i_8 a l c i_9, Ld Tryz.prog 38 w1 (Addr.mk b_1 0 none) (Value.agg #[Value.int IntKind.i64 i, Value.int
 IntKind.i64 i_8, Value.slice a l c, Value.int IntKind.i64 i_9]) ∧ R (Ending.returned (Value.agg #[Value.int IntKind.i64 i, Value.int IntKind.i64 i_8, Value.slice a l c, Value.int IntKind.i64 i_9]))
 w1)))))
theorem bDo.eq (w_ : Option Addr) (s_Kind : Int) (s_N : Int) (s_S : ByteArray) (s_E_Kind : Int) (s_E_Id : Int) (s_E_To : Int) (s_E_At : Int) (s_E_Name : ByteArray) (s_E_Text : ByteArray) (s_E_Itemsa : Option Addr) (s_E_Itemsn : Nat) (s_E_Itemsc : Nat) (s_Picksa : Option Addr) (s_Picksn : Nat) (s_Picksc : Nat) (w : World) (R : Ending → World → Prop) : bodyV Tryz.prog bDo.an Tryz.f9 [.pointer w_, .agg #[.int .i64 s_Kind, .int .i64 s_N, .string s_S, .int .i64 s_E_Kind, .int .i64 s_E_Id, .int .i64 s_E_To, .int .i64 s_E_At, .string s_E_Name, .string s_E_Text, .slice s_E_Itemsa s_E_Itemsn s_E_Itemsc, .slice s_Picksa s_Picksn s_Picksc]] w R = bDo.vc w_ s_Kind s_N s_S s_E_Kind s_E_Id s_E_To s_E_At s_E_Name s_E_Text s_E_Itemsa s_E_Itemsn s_E_Itemsc s_Picksa s_Picksn s_Picksc w R := by kernel_rfl
theorem bDo.ok (w_ : Option Addr) (s_Kind : Int) (s_N : Int) (s_S : ByteArray) (s_E_Kind : Int) (s_E_Id : Int) (s_E_To : Int) (s_E_At : Int) (s_E_Name : ByteArray) (s_E_Text : ByteArray) (s_E_Itemsa : Option Addr) (s_E_Itemsn : Nat) (s_E_Itemsc : Nat) (s_Picksa : Option Addr) (s_Picksn : Nat) (s_Picksc : Nat) (w : World) (R : Ending → World → Prop) (h : bDo.vc w_ s_Kind s_N s_S s_E_Kind s_E_Id s_E_To s_E_At s_E_Name s_E_Text s_E_Itemsa s_E_Itemsn s_E_Itemsc s_Picksa s_Picksn s_Picksc w R) : Calls Tryz.prog 9 #[.pointer w_, .agg #[.int .i64 s_Kind, .int .i64 s_N, .string s_S, .int .i64 s_E_Kind, .int .i64 s_E_Id, .int .i64 s_E_To, .int .i64 s_E_At, .string s_E_Name, .string s_E_Text, .slice s_E_Itemsa s_E_Itemsn s_E_Itemsc, .slice s_Picksa s_Picksn s_Picksc]] w R :=
  calls_of_bodyV noNum (an := bDo.an) (args := [.pointer w_, .agg #[.int .i64 s_Kind, .int .i64 s_N, .string s_S, .int .i64 s_E_Kind, .int .i64 s_E_Id, .int .i64 s_E_To, .int .i64 s_E_At, .string s_E_Name, .string s_E_Text, .slice s_E_Itemsa s_E_Itemsn s_E_Itemsc, .slice s_Picksa s_Picksn s_Picksc]]) Tryz.func9 (by kernel_rfl) ((bDo.eq w_ s_Kind s_N s_S s_E_Kind s_E_Id s_E_To s_E_At s_E_Name s_E_Text s_E_Itemsa s_E_Itemsn s_E_Itemsc s_Picksa s_Picksn s_Picksc w R).mpr h)
def own.an : An := { wraps := [], loops := [], joins := [], ranges := [] }
def own.vc (s_Kind : Int) (s_N : Int) (s_S : ByteArray) (s_E_Kind : Int) (s_E_Id : Int) (s_E_To : Int) (s_E_At : Int) (s_E_Name : ByteArray) (s_E_Text : ByteArray) (s_E_La : Option Addr) (s_E_Ln : Nat) (s_E_Lc : Nat) (s_Picksa : Option Addr) (s_Picksn : Nat) (s_Picksc : Nat) (w : World) (R : Ending → World → Prop) : Prop := ∀ b w1, New w (Obj.cells #[Value.int IntKind.i64 s_Kind, Value.int IntKind.i64 s_N, Value.string s_S, Value.int IntKind.i64 s_E_Kind, Value.int IntKind.i64 s_E_Id, Value.int IntKind.i64 s_E_To,
 Value.int IntKind.i64 s_E_At, Value.string s_E_Name, Value.string s_E_Text, Value.slice s_E_La s_E_Ln s_E_Lc, Value.slice s_Picksa s_Picksn s_Picksc] 34) b w1 → ∀ b_1 w1_1, New w1 (Obj.cells
 #[Value.int IntKind.i64 0, Value.int IntKind.i64 0, Value.string (ByteArray.mk #[]), Value.int IntKind.i64 0, Value.int IntKind.i64 0, Value.int IntKind.i64 0, Value.int IntKind.i64 0, Value.string
 (ByteArray.mk #[]), Value.string (ByteArray.mk #[]), Value.slice none 0 0, Value.slice none 0 0] 43) b_1 w1_1 → ∃ i i_1 i_2 i_3 s s_1 a l c, Ld Tryz.prog 31 w1_1 (Addr.mk b 3 none) (Value.agg
 #[Value.int IntKind.i64 i, Value.int IntKind.i64 i_1, Value.int IntKind.i64 i_2, Value.int IntKind.i64 i_3, Value.string s, Value.string s_1, Value.slice a l c]) ∧ ∀ b_2 w1, New w1_1 (Obj.cells
 #[Value.int IntKind.i64 0, Value.int IntKind.i64 0, Value.int IntKind.i64 0, Value.int IntKind.i64 0, Value.string (ByteArray.mk #[]), Value.string (ByteArray.mk #[]), Value.slice none 0 0] 31) b_2 w1
 → ∃ w1_2, St Tryz.prog 31 w1 (Addr.mk b_2 0 none) (Value.agg #[Value.int IntKind.i64 i, Value.int IntKind.i64 i_1, Value.int IntKind.i64 i_2, Value.int IntKind.i64 i_3, Value.string s,
 Value.string s_1, Value.slice a l c]) w1_2 ∧ ∃ i, Ld Tryz.prog 3 w1_2 (Addr.mk b 0 none) (Value.int IntKind.i64 i) ∧ ∃ i_4, Ld Tryz.prog 3 w1_2 (Addr.mk b 1 none) (Value.int
 IntKind.i64 i_4) ∧ ∃ s, Ld Tryz.prog 9 w1_2 (Addr.mk b 2 none) (Value.string s) ∧ ∃ a l c, Ld Tryz.prog 32 w1_2 (Addr.mk b 10 none) (Value.slice a l c) ∧ ∃ i_5, Ld Tryz.prog
 3 w1_2 (Addr.mk b_2 0 none) (Value.int IntKind.i64 i_5) ∧ ∃ i_6, Ld Tryz.prog 3 w1_2 (Addr.mk b_2 1 none) (Value.int IntKind.i64 i_6) ∧ ∃ i_7, Ld Tryz.prog 3 w1_2 (Addr.mk b_2 2
 none) (Value.int IntKind.i64 i_7) ∧ ∃ i_8, Ld Tryz.prog 3 w1_2 (Addr.mk b_2 3 none) (Value.int IntKind.i64 i_8) ∧ ∃ s_2, Ld Tryz.prog 9 w1_2 (Addr.mk b_2 4 none) (Value.string s_2) ∧
 ∃ s_3, Ld Tryz.prog 9 w1_2 (Addr.mk b_2 5 none) (Value.string s_3) ∧ ∃ a_2 l_1 c_1, Ld Tryz.prog 29 w1_2 (Addr.mk b_2 6 none) (Value.slice a_2 l_1 c_1) ∧ ∃ w1, St Tryz.prog
 43 w1_2 (Addr.mk b_1 0 none) (Value.agg #[Value.int IntKind.i64 i, Value.int IntKind.i64 i_4, Value.string s, Value.int IntKind.i64 i_5, Value.int IntKind.i64 i_6, Value.int IntKind.i64 i_7, Value.int
 IntKind.i64 i_8, Value.string s_2, Value.string s_3, Value.slice a_2 l_1 c_1, Value.slice a l c]) w1 ∧ ∃ i i_9 s i_10 i_11 i_12 i_13 s_4 s_5 a l c a_3 l_2 c_2, Ld Tryz.prog 43 w1 (Addr.mk b_1
 0 none) (Value.agg #[Value.int IntKind.i64 i, Value.int IntKind.i64 i_9, Value.string s, Value.int IntKind.i64 i_10, Value.int IntKind.i64 i_11, Value.int IntKind.i64 i_12, Value.int IntKind.i64 i_13,
 Value.string s_4, Value.string s_5, Value.slice a l c, Value.slice a_3 l_2 c_2]) ∧ R (Ending.returned (Value.agg #[Value.int IntKind.i64 i, Value.int IntKind.i64 i_9, Value.string s, Value.int
 IntKind.i64 i_10, Value.int IntKind.i64 i_11, Value.int IntKind.i64 i_12, Value.int IntKind.i64 i_13, Value.string s_4, Value.string s_5, Value.slice a l c, Value.slice a_3 l_2 c_2])) w1
theorem own.eq (s_Kind : Int) (s_N : Int) (s_S : ByteArray) (s_E_Kind : Int) (s_E_Id : Int) (s_E_To : Int) (s_E_At : Int) (s_E_Name : ByteArray) (s_E_Text : ByteArray) (s_E_La : Option Addr) (s_E_Ln : Nat) (s_E_Lc : Nat) (s_Picksa : Option Addr) (s_Picksn : Nat) (s_Picksc : Nat) (w : World) (R : Ending → World → Prop) : bodyV Tryz.prog own.an Tryz.f10 [.agg #[.int .i64 s_Kind, .int .i64 s_N, .string s_S, .int .i64 s_E_Kind, .int .i64 s_E_Id, .int .i64 s_E_To, .int .i64 s_E_At, .string s_E_Name, .string s_E_Text, .slice s_E_La s_E_Ln s_E_Lc, .slice s_Picksa s_Picksn s_Picksc]] w R = own.vc s_Kind s_N s_S s_E_Kind s_E_Id s_E_To s_E_At s_E_Name s_E_Text s_E_La s_E_Ln s_E_Lc s_Picksa s_Picksn s_Picksc w R := by kernel_rfl
theorem own.ok (s_Kind : Int) (s_N : Int) (s_S : ByteArray) (s_E_Kind : Int) (s_E_Id : Int) (s_E_To : Int) (s_E_At : Int) (s_E_Name : ByteArray) (s_E_Text : ByteArray) (s_E_La : Option Addr) (s_E_Ln : Nat) (s_E_Lc : Nat) (s_Picksa : Option Addr) (s_Picksn : Nat) (s_Picksc : Nat) (w : World) (R : Ending → World → Prop) (h : own.vc s_Kind s_N s_S s_E_Kind s_E_Id s_E_To s_E_At s_E_Name s_E_Text s_E_La s_E_Ln s_E_Lc s_Picksa s_Picksn s_Picksc w R) : Calls Tryz.prog 10 #[.agg #[.int .i64 s_Kind, .int .i64 s_N, .string s_S, .int .i64 s_E_Kind, .int .i64 s_E_Id, .int .i64 s_E_To, .int .i64 s_E_At, .string s_E_Name, .string s_E_Text, .slice s_E_La s_E_Ln s_E_Lc, .slice s_Picksa s_Picksn s_Picksc]] w R :=
  calls_of_bodyV noNum (an := own.an) (args := [.agg #[.int .i64 s_Kind, .int .i64 s_N, .string s_S, .int .i64 s_E_Kind, .int .i64 s_E_Id, .int .i64 s_E_To, .int .i64 s_E_At, .string s_E_Name, .string s_E_Text, .slice s_E_La s_E_Ln s_E_Lc, .slice s_Picksa s_Picksn s_Picksc]]) Tryz.func10 (by kernel_rfl) ((own.eq s_Kind s_N s_S s_E_Kind s_E_Id s_E_To s_E_At s_E_Name s_E_Text s_E_La s_E_Ln s_E_Lc s_Picksa s_Picksn s_Picksc w R).mpr h)
def names.an : An := { wraps := [], loops := [], joins := [], ranges := [] }
def names.vc (d : Option Addr) (w : World) (R : Ending → World → Prop) : Prop := onP d fun a ↦ ∃ m, Ld Tryz.prog 66 w (Addr.add a 2) (Value.map m) ∧ CallV Tryz.prog 23 [Value.map m] w fun e w' ↦ ∃ v, e = Ending.returned v ∧ CallV Tryz.prog 22 [v] w' fun e
 w' ↦ ∃ a l c, e = Ending.returned (Value.slice a l c) ∧ R (Ending.returned (Value.slice a l c)) w'
theorem names.eq (d : Option Addr) (w : World) (R : Ending → World → Prop) : bodyV Tryz.prog names.an Tryz.f12 [.pointer d] w R = names.vc d w R := by kernel_rfl
theorem names.ok (d : Option Addr) (w : World) (R : Ending → World → Prop) (h : names.vc d w R) : Calls Tryz.prog 12 #[.pointer d] w R :=
  calls_of_bodyV noNum (an := names.an) (args := [.pointer d]) Tryz.func12 (by kernel_rfl) ((names.eq d w R).mpr h)
def vNew.an : An := { wraps := [], loops := [], joins := [], ranges := [] }
def vNew.vc (room : Int) (w : World) (R : Ending → World → Prop) : Prop := ∀ b w1, New w (Obj.map #[] 0) b w1 → ∀ b_1 w1_1, New w1 (Obj.map #[] 0) b_1 w1_1 → ∀ b_2 w1, New w1_1 (Obj.cells #[Value.int IntKind.i64 (min (max room (0 : Int)) (65536 : Int)), Value.slice none 0 0,
 Value.map (some b), Value.map (some b_1), Value.slice none 0 0, Value.int IntKind.i64 0, Value.int IntKind.i64 0, Value.bool false] 70) b_2 w1 → R (Ending.returned (Value.pointer (some (Addr.mk b_2 0
 none)))) w1
theorem vNew.eq (room : Int) (w : World) (R : Ending → World → Prop) : bodyV Tryz.prog vNew.an Tryz.f13 [.int .i64 room] w R = vNew.vc room w R := by kernel_rfl
theorem vNew.ok (room : Int) (w : World) (R : Ending → World → Prop) (h : vNew.vc room w R) : Calls Tryz.prog 13 #[.int .i64 room] w R :=
  calls_of_bodyV noNum (an := vNew.an) (args := [.int .i64 room]) Tryz.func13 (by kernel_rfl) ((vNew.eq room w R).mpr h)
def troubles.an : An := { wraps := [], loops := [], joins := [], ranges := [] }
def troubles.vc (s_Kind : Int) (s_N : Int) (s_S : ByteArray) (s_E_Kind : Int) (s_E_Id : Int) (s_E_To : Int) (s_E_At : Int) (s_E_Name : ByteArray) (s_E_Text : ByteArray) (s_E_La : Option Addr) (s_E_Ln : Nat) (s_E_Lc : Nat) (s_Picksa : Option Addr) (s_Picksn : Nat) (s_Picksc : Nat) (w : World) (R : Ending → World → Prop) : Prop := ∀ b w1, New w (Obj.cells #[Value.int IntKind.i64 s_Kind, Value.int IntKind.i64 s_N, Value.string s_S, Value.int IntKind.i64 s_E_Kind, Value.int IntKind.i64 s_E_Id, Value.int IntKind.i64 s_E_To,
 Value.int IntKind.i64 s_E_At, Value.string s_E_Name, Value.string s_E_Text, Value.slice s_E_La s_E_Ln s_E_Lc, Value.slice s_Picksa s_Picksn s_Picksc] 34) b w1 → ∃ i, Ld Tryz.prog 3 w1
 (Addr.mk b 0 none) (Value.int IntKind.i64 i) ∧ br (decide (i = (8 : Int))) (R (Ending.returned (Value.bool true)) w1) (∃ i, Ld Tryz.prog 3 w1 (Addr.mk b 0 none) (Value.int IntKind.i64 i) ∧ br
 (decide (i = (9 : Int))) (R (Ending.returned (Value.bool true)) w1) (∃ i, Ld Tryz.prog 3 w1 (Addr.mk b 0 none) (Value.int IntKind.i64 i) ∧ R (Ending.returned (Value.bool (decide (i = (10 :
 Int))))) w1))
theorem troubles.eq (s_Kind : Int) (s_N : Int) (s_S : ByteArray) (s_E_Kind : Int) (s_E_Id : Int) (s_E_To : Int) (s_E_At : Int) (s_E_Name : ByteArray) (s_E_Text : ByteArray) (s_E_La : Option Addr) (s_E_Ln : Nat) (s_E_Lc : Nat) (s_Picksa : Option Addr) (s_Picksn : Nat) (s_Picksc : Nat) (w : World) (R : Ending → World → Prop) : bodyV Tryz.prog troubles.an Tryz.f8 [.agg #[.int .i64 s_Kind, .int .i64 s_N, .string s_S, .int .i64 s_E_Kind, .int .i64 s_E_Id, .int .i64 s_E_To, .int .i64 s_E_At, .string s_E_Name, .string s_E_Text, .slice s_E_La s_E_Ln s_E_Lc, .slice s_Picksa s_Picksn s_Picksc]] w R = troubles.vc s_Kind s_N s_S s_E_Kind s_E_Id s_E_To s_E_At s_E_Name s_E_Text s_E_La s_E_Ln s_E_Lc s_Picksa s_Picksn s_Picksc w R := by kernel_rfl
theorem troubles.ok (s_Kind : Int) (s_N : Int) (s_S : ByteArray) (s_E_Kind : Int) (s_E_Id : Int) (s_E_To : Int) (s_E_At : Int) (s_E_Name : ByteArray) (s_E_Text : ByteArray) (s_E_La : Option Addr) (s_E_Ln : Nat) (s_E_Lc : Nat) (s_Picksa : Option Addr) (s_Picksn : Nat) (s_Picksc : Nat) (w : World) (R : Ending → World → Prop) (h : troubles.vc s_Kind s_N s_S s_E_Kind s_E_Id s_E_To s_E_At s_E_Name s_E_Text s_E_La s_E_Ln s_E_Lc s_Picksa s_Picksn s_Picksc w R) : Calls Tryz.prog 8 #[.agg #[.int .i64 s_Kind, .int .i64 s_N, .string s_S, .int .i64 s_E_Kind, .int .i64 s_E_Id, .int .i64 s_E_To, .int .i64 s_E_At, .string s_E_Name, .string s_E_Text, .slice s_E_La s_E_Ln s_E_Lc, .slice s_Picksa s_Picksn s_Picksc]] w R :=
  calls_of_bodyV noNum (an := troubles.an) (args := [.agg #[.int .i64 s_Kind, .int .i64 s_N, .string s_S, .int .i64 s_E_Kind, .int .i64 s_E_Id, .int .i64 s_E_To, .int .i64 s_E_At, .string s_E_Name, .string s_E_Text, .slice s_E_La s_E_Ln s_E_Lc, .slice s_Picksa s_Picksn s_Picksc]]) Tryz.func8 (by kernel_rfl) ((troubles.eq s_Kind s_N s_S s_E_Kind s_E_Id s_E_To s_E_At s_E_Name s_E_Text s_E_La s_E_Ln s_E_Lc s_Picksa s_Picksn s_Picksc w R).mpr h)
def few.an : An := { wraps := [0,1,2,3,4,5,6,7,8,9,10,11,12], loops := [(3, [(3, .inl .i64), (4, .inl .i64), (9, .inl .i64)])], joins := [], ranges := [] }
def few.vc (scripta : Option Addr) (scriptn : Nat) (scriptc : Nat) (w : World) (R : Ending → World → Prop) : Prop := LoopP (fun (s : Int × Int × Int) (w' : World) (next : Int × Int × Int → World → Prop) ↦ br (decide (Prod.snd (Prod.snd s) < (↑scriptn : Int))) (onP scripta fun a ↦ ((0 : Int) ≤ Prod.snd (Prod.snd s) ∧
 Prod.snd (Prod.snd s) < (↑scriptn : Int)) ∧ ∃ i i_1 s_1 i_2 i_3 i_4 i_5 s_2 s_3 a_1 l c a_2 l_1 c_1, Ld Tryz.prog 34 w' (Addr.add a (Int.toNat (Prod.snd (Prod.snd s)) * 11)) (Value.agg
 #[Value.int IntKind.i64 i, Value.int IntKind.i64 i_1, Value.string s_1, Value.int IntKind.i64 i_2, Value.int IntKind.i64 i_3, Value.int IntKind.i64 i_4, Value.int IntKind.i64 i_5, Value.string s_2,
 Value.string s_3, Value.slice a_1 l c, Value.slice a_2 l_1 c_1]) ∧ ∀ b w1, New w' (Obj.cells #[Value.int IntKind.i64 0, Value.int IntKind.i64 0, Value.string (ByteArray.mk #[]), Value.int IntKind.i64
 0, Value.int IntKind.i64 0, Value.int IntKind.i64 0, Value.int IntKind.i64 0, Value.string (ByteArray.mk #[]), Value.string (ByteArray.mk #[]), Value.slice none 0 0, Value.slice none 0 0] 34) b w1 → ∃
 w1_1, St Tryz.prog 34 w1 (Addr.mk b 0 none) (Value.agg #[Value.int IntKind.i64 i, Value.int IntKind.i64 i_1, Value.string s_1, Value.int IntKind.i64 i_2, Value.int IntKind.i64 i_3, Value.int
 IntKind.i64 i_4, Value.int IntKind.i64 i_5, Value.string s_2, Value.string s_3, Value.slice a_1 l c, Value.slice a_2 l_1 c_1]) w1_1 ∧ ∃ a l c, Ld Tryz.prog 29 w1_1 (Addr.add (Addr.mk b 3
 none) 6) (Value.slice a l c) ∧ ∃ a l_2 c, Ld Tryz.prog 29 (World.drew w1_1) (Addr.add (Addr.mk b 3 none) 6) (Value.slice a l_2 c) ∧ ∃ s_4, Ld Tryz.prog 9 (World.drew w1_1) (Addr.add
 (Addr.mk b 3 none) 5) (Value.string s_4) ∧ CallV Tryz.prog 14 [Value.slice a l_2 c] (World.drew w1_1) fun e w' ↦ ∃ i, e = Ending.returned (Value.int IntKind.i64 i) ∧ Ld Tryz.prog 9
 w' (Addr.add (Addr.mk b 3 none) 5) (Value.string s_4) ∧ next (IntKind.wrap IntKind.i64 (Prod.fst s + (↑l : Int)), IntKind.wrap IntKind.i64 (Prod.fst (Prod.snd s) + IntKind.wrap IntKind.i64 (i +
 (↑(ByteArray.size s_4) : Int))), IntKind.wrap IntKind.i64 (Prod.snd (Prod.snd s) + (1 : Int))) w') (br (decide ((↑scriptn : Int) ≤ (60 : Int))) (br (decide (Prod.fst s ≤ (400 : Int))) (R
 (Ending.returned (Value.bool (decide (Prod.fst (Prod.snd s) ≤ (20000 : Int))))) w') (R (Ending.returned (Value.bool false)) w')) (R (Ending.returned (Value.bool false)) w'))) ((0 : Int), (0 : Int), (0
 : Int)) w
theorem few.eq (scripta : Option Addr) (scriptn : Nat) (scriptc : Nat) (w : World) (R : Ending → World → Prop) : bodyV Tryz.prog few.an Tryz.f6 [.slice scripta scriptn scriptc] w R = few.vc scripta scriptn scriptc w R := by kernel_rfl
theorem few.ok (scripta : Option Addr) (scriptn : Nat) (scriptc : Nat) (w : World) (R : Ending → World → Prop) (h : few.vc scripta scriptn scriptc w R) : Calls Tryz.prog 6 #[.slice scripta scriptn scriptc] w R :=
  calls_of_bodyV noNum (an := few.an) (args := [.slice scripta scriptn scriptc]) Tryz.func6 (by kernel_rfl) ((few.eq scripta scriptn scriptc w R).mpr h)
def weight.an : An := { wraps := [0,1,2,3,4,5,6,7,8,9,10,11,12], loops := [(3, [(3, .inl .i64), (10, .inl .i64)]), (7, [(3, .inl .i64), (26, .inl .i64)])], joins := [], ranges := [] }
def weight.vc (la : Option Addr) (ln : Nat) (lc : Nat) (w : World) (R : Ending → World → Prop) : Prop := LoopP (fun (s : Int × Int) (w' : World) (next : Int × Int → World → Prop) ↦ br (decide (Prod.snd s < (↑ln : Int))) (onP la fun a ↦ ((0 : Int) ≤ Prod.snd s ∧ Prod.snd s < (↑ln : Int)) ∧ ∃ i i_1 s_1 s_2
 a_1 l c, Ld Tryz.prog 55 w' (Addr.add a (Int.toNat (Prod.snd s) * 5)) (Value.agg #[Value.int IntKind.i64 i, Value.int IntKind.i64 i_1, Value.string s_1, Value.string s_2, Value.slice a_1 l
 c]) ∧ ∀ b w1, New w' (Obj.cells #[Value.int IntKind.i64 0, Value.int IntKind.i64 0, Value.string (ByteArray.mk #[]), Value.string (ByteArray.mk #[]), Value.slice none 0 0] 55) b w1 → ∃ w1_1, St
 Tryz.prog 55 w1 (Addr.mk b 0 none) (Value.agg #[Value.int IntKind.i64 i, Value.int IntKind.i64 i_1, Value.string s_1, Value.string s_2, Value.slice a_1 l c]) w1_1 ∧ ∃ s_3, Ld
 Tryz.prog 9 w1_1 (Addr.mk b 2 none) (Value.string s_3) ∧ ∃ s_4, Ld Tryz.prog 9 w1_1 (Addr.mk b 3 none) (Value.string s_4) ∧ ∃ a l c, Ld Tryz.prog 53 w1_1 (Addr.mk b 4 none)
 (Value.slice a l c) ∧ LoopP (fun (s_5 : Int × Int) (w' : World) (next_1 : Int × Int → World → Prop) ↦ br (decide (Prod.snd s_5 < (↑l : Int))) (onP a fun a ↦ ((0 : Int) ≤ Prod.snd s_5 ∧ Prod.snd s_5 <
 (↑l : Int)) ∧ ∃ s s_6, Ld Tryz.prog 72 w' (Addr.add a (Int.toNat (Prod.snd s_5) * 2)) (Value.agg #[Value.string s, Value.string s_6]) ∧ ∀ b w1, New w' (Obj.cells #[Value.string (ByteArray.mk
 #[]), Value.string (ByteArray.mk #[])] 72) b w1 → ∃ w1_2, St Tryz.prog 72 w1 (Addr.mk b 0 none) (Value.agg #[Value.string s, Value.string s_6]) w1_2 ∧ ∃ s, Ld Tryz.prog 9 w1_2
 (Addr.mk b 0 none) (Value.string s) ∧ ∃ s_7, Ld Tryz.prog 9 w1_2 (Addr.mk b 1 none) (Value.string s_7) ∧ next_1 (IntKind.wrap IntKind.i64 (Prod.fst s_5 + IntKind.wrap IntKind.i64
 ((↑(ByteArray.size s) : Int) + (↑(ByteArray.size s_7) : Int))), IntKind.wrap IntKind.i64 (Prod.snd s_5 + (1 : Int))) w1_2) (next (Prod.fst s_5, IntKind.wrap IntKind.i64 (Prod.snd s + (1 : Int))) w'))
 (IntKind.wrap IntKind.i64 (Prod.fst s + IntKind.wrap IntKind.i64 ((↑(ByteArray.size s_3) : Int) + (↑(ByteArray.size s_4) : Int))), (0 : Int)) w1_1) (R (Ending.returned (Value.int IntKind.i64 (Prod.fst
 s))) w')) ((0 : Int), (0 : Int)) w
theorem weight.eq (la : Option Addr) (ln : Nat) (lc : Nat) (w : World) (R : Ending → World → Prop) : bodyV Tryz.prog weight.an Tryz.f14 [.slice la ln lc] w R = weight.vc la ln lc w R := by kernel_rfl
theorem weight.ok (la : Option Addr) (ln : Nat) (lc : Nat) (w : World) (R : Ending → World → Prop) (h : weight.vc la ln lc w R) : Calls Tryz.prog 14 #[.slice la ln lc] w R :=
  calls_of_bodyV noNum (an := weight.an) (args := [.slice la ln lc]) Tryz.func14 (by kernel_rfl) ((weight.eq la ln lc w R).mpr h)
end Go.Proofs.YtfcofkdpbmjefaaGreat
namespace Go.Proofs.YtfcofkdpbmjefaaGreat
open Go Go.Vc Go.Proofs Go.RowKit Go.Maps Go.Sort Go.Shelf
theorem bears_of {P : Program} {f : FuncId} {B : Func} (h1 : ((((P.funcs[f]?).map (·.name)).getD "") == "runtime.NumGoroutine") = false := by kernel_rfl) (h2 : P.funcs[f]? = some { B with name := ((P.funcs[f]?).map (·.name)).getD "" } := by kernel_rfl) : Bears P f B := ⟨_, h1, h2⟩
def keysSR : Ren := { f := fun | 7 => 23 | 10 => 39 | n => n, t := fun | 23 => 66 | 26 => 9 | 3 => 3 | 28 => 64 | 0 => 0 | 27 => 63 | 33 => 99 | 4 => 4 | n => n, g := fun n => n }
theorem keysSL : SlLaysZ.n7 Tryz.prog keysSR := by constructor <;> first | (intros; kernel_rfl) | exact bears_of
def sortedSR : Ren := { f := fun | 6 => 22 | 8 => 37 | 9 => 38 | 11 => 71 | 13 => 73 | 12 => 72 | 23 => 152 | 24 => 153 | 14 => 143 | 15 => 144 | 16 => 145 | 17 => 146 | 18 => 147 | 19 => 148 | 20 => 149 | 21 => 150 | 22 => 151 | 25 => 256 | 26 => 257 | 27 => 258 | 28 => 259 | 29 => 260 | 30 => 261 | 31 => 344 | n => n, t := fun | 26 => 9 | 28 => 64 | 24 => 47 | 0 => 0 | 3 => 3 | 37 => 163 | 48 => 267 | 50 => 194 | 4 => 4 | 40 => 259 | 39 => 258 | 45 => 264 | 5 => 5 | 9 => 9 | 51 => 384 | 55 => 388 | 57 => 458 | 58 => 311 | 33 => 99 | n => n, g := fun n => n }
theorem sortedSL : SlLaysZ.n6 Tryz.prog sortedSR := by constructor <;> first | (intros; kernel_rfl) | exact bears_of
def sortSR : Ren := { f := fun | 6 => 38 | 8 => 73 | 9 => 72 | 19 => 152 | 20 => 153 | 21 => 143 | 22 => 144 | 23 => 145 | 24 => 146 | 25 => 147 | 26 => 148 | 27 => 149 | 28 => 150 | 29 => 151 | 36 => 256 | 31 => 257 | 32 => 258 | 37 => 259 | 38 => 260 | 39 => 261 | 41 => 344 | n => n, t := fun | 27 => 47 | 29 => 9 | 3 => 3 | 32 => 163 | 26 => 47 | 0 => 0 | 44 => 267 | 46 => 194 | 4 => 4 | 36 => 259 | 35 => 258 | 41 => 264 | 5 => 5 | 9 => 9 | 53 => 384 | 57 => 388 | 63 => 458 | 64 => 311 | n => n, g := fun n => n }
theorem sortSL : SlLaysM.n6 Tryz.prog sortSR := by constructor <;> first | (intros; kernel_rfl) | exact bears_of
def keysIR : Ren := { f := fun | 7 => 54 | 10 => 95 | n => n, t := fun | 23 => 133 | 26 => 3 | 3 => 4 | 28 => 138 | 0 => 0 | 27 => 137 | 33 => 193 | 4 => 4 | n => n, g := fun n => n }
theorem keysIL : SlLaysZI.n7 Tryz.prog keysIR := by constructor <;> first | (intros; kernel_rfl) | exact bears_of
def keysNR : Ren := { f := fun | 7 => 64 | 10 => 126 | n => n, t := fun | 23 => 144 | 26 => 3 | 3 => 3 | 28 => 138 | 0 => 0 | 27 => 137 | 33 => 193 | 4 => 4 | n => n, g := fun n => n }
theorem keysNL : SlLaysZI.n7 Tryz.prog keysNR := by constructor <;> first | (intros; kernel_rfl) | exact bears_of
def sortedIR : Ren := { f := fun | 6 => 53 | 8 => 93 | 9 => 94 | 11 => 193 | 13 => 73 | 12 => 194 | 23 => 152 | 24 => 153 | 14 => 295 | 15 => 296 | 16 => 297 | 17 => 298 | 18 => 299 | 19 => 300 | 20 => 301 | 21 => 302 | 22 => 303 | 25 => 372 | 26 => 257 | 27 => 258 | 28 => 373 | 29 => 374 | 30 => 375 | 31 => 423 | n => n, t := fun | 26 => 3 | 28 => 138 | 24 => 32 | 0 => 0 | 3 => 3 | 37 => 163 | 48 => 267 | 50 => 194 | 4 => 4 | 40 => 259 | 39 => 258 | 45 => 264 | 5 => 5 | 9 => 9 | 51 => 384 | 55 => 388 | 57 => 458 | 58 => 311 | 33 => 193 | n => n, g := fun n => n }
theorem sortedIL : SlLaysZI.n6 Tryz.prog sortedIR := by constructor <;> first | (intros; kernel_rfl) | exact bears_of
def sortIR : Ren := { f := fun | 5 => 94 | 8 => 73 | 7 => 194 | 19 => 152 | 20 => 153 | 10 => 295 | 11 => 296 | 12 => 297 | 13 => 298 | 14 => 299 | 15 => 300 | 16 => 301 | 17 => 302 | 18 => 303 | 30 => 372 | 31 => 257 | 32 => 258 | 33 => 373 | 34 => 374 | 35 => 375 | 40 => 423 | n => n, t := fun | 23 => 32 | 25 => 3 | 3 => 3 | 32 => 163 | 22 => 32 | 0 => 0 | 44 => 267 | 46 => 194 | 4 => 4 | 36 => 259 | 35 => 258 | 41 => 264 | 5 => 5 | 9 => 9 | 53 => 384 | 57 => 388 | 63 => 458 | 64 => 311 | n => n, g := fun n => n }
theorem sortIL : SlLaysM.n5 Tryz.prog sortIR := by constructor <;> first | (intros; kernel_rfl) | exact bears_of
def keysPR : Ren := { f := fun | 7 => 215 | 10 => 323 | n => n, t := fun | 23 => 187 | 26 => 9 | 3 => 206 | 28 => 64 | 0 => 0 | 27 => 63 | 33 => 99 | 4 => 4 | n => n, g := fun n => n }
theorem keysPL : SlLaysZ.n7 Tryz.prog keysPR := by constructor <;> first | (intros; kernel_rfl) | exact bears_of
def keysRR : Ren := { f := fun | 7 => 217 | 10 => 324 | n => n, t := fun | 23 => 219 | 26 => 9 | 3 => 344 | 28 => 64 | 0 => 0 | 27 => 63 | 33 => 99 | 4 => 4 | n => n, g := fun n => n }
theorem keysRL : SlLaysZ.n7 Tryz.prog keysRR := by constructor <;> first | (intros; kernel_rfl) | exact bears_of
def keysWR : Ren := { f := fun | 7 => 183 | 10 => 284 | n => n, t := fun | 23 => 176 | 26 => 3 | 3 => 47 | 28 => 138 | 0 => 0 | 27 => 137 | 33 => 193 | 4 => 4 | n => n, g := fun n => n }
theorem keysWL : SlLaysZI.n7 Tryz.prog keysWR := by constructor <;> first | (intros; kernel_rfl) | exact bears_of
def sbstrR : Ren := { f := fun | 169 => 46 | n => n, t := fun | 70 => 107 | 9 => 9 | 0 => 0 | 72 => 109 | 37 => 102 | 127 => 165 | 3 => 3 | 5 => 5 | n => n, g := fun n => n }
theorem sbstrL : Lays.n169 Tryz.prog sbstrR := { mixed := by kernel_rfl, f169 := Tryz.func46.trans (congrArg some (by kernel_rfl)), t0 := Tryz.underlying0, a0 := Tryz.isAgg0, z0 := Tryz.sizeOf0, v0 := Tryz.zeroValue0, t3 := Tryz.underlying3, a3 := Tryz.isAgg3, z3 := Tryz.sizeOf3, v3 := Tryz.zeroValue3, t9 := Tryz.underlying9, a9 := Tryz.isAgg9, z9 := Tryz.sizeOf9, v9 := Tryz.zeroValue9, t37 := Tryz.underlying102, a37 := Tryz.isAgg102, z37 := Tryz.sizeOf102, v37 := Tryz.zeroValue102, t70 := Tryz.underlying107, a70 := Tryz.isAgg107, z70 := Tryz.sizeOf107, v70 := Tryz.zeroValue107, t72 := Tryz.underlying109, a72 := Tryz.isAgg109, z72 := Tryz.sizeOf109, v72 := Tryz.zeroValue109, t127 := Tryz.underlying165, a127 := Tryz.isAgg165, z127 := Tryz.sizeOf165, v127 := Tryz.zeroValue165 }
def sbccR : Ren := { f := fun | 240 => 75 | 276 => 154 | n => n, t := fun | 70 => 107 | 72 => 109 | 164 => 269 | 37 => 102 | 20 => 20 | n => n, g := fun n => n }
theorem sbccL : Lays.n240 Tryz.prog sbccR := { mixed := by kernel_rfl, f240 := Tryz.func75.trans (congrArg some (by kernel_rfl)), f276 := Tryz.func154.trans (congrArg some (by kernel_rfl)), t0 := Tryz.underlying0, a0 := Tryz.isAgg0, z0 := Tryz.sizeOf0, v0 := Tryz.zeroValue0, t4 := Tryz.underlying4, a4 := Tryz.isAgg4, z4 := Tryz.sizeOf4, v4 := Tryz.zeroValue4, t9 := Tryz.underlying9, a9 := Tryz.isAgg9, z9 := Tryz.sizeOf9, v9 := Tryz.zeroValue9, t20 := Tryz.underlying20, a20 := Tryz.isAgg20, z20 := Tryz.sizeOf20, v20 := Tryz.zeroValue20, t70 := Tryz.underlying107, a70 := Tryz.isAgg107, z70 := Tryz.sizeOf107, v70 := Tryz.zeroValue107, t72 := Tryz.underlying109, a72 := Tryz.isAgg109, z72 := Tryz.sizeOf109, v72 := Tryz.zeroValue109, t164 := Tryz.underlying269, a164 := Tryz.isAgg269, z164 := Tryz.sizeOf269, v164 := Tryz.zeroValue269 }
theorem sbccX : Builder.X72 Tryz.prog sbccR := ⟨by kernel_rfl, by decide +kernel⟩
theorem sbstrX : Builder.Extra Tryz.prog sbstrR := { sizeBuilder := by kernel_rfl, liesBuilder := by decide +kernel, t5 := Tryz.underlying5, a5 := Tryz.isAgg5, z5 := Tryz.sizeOf5, v5 := Tryz.zeroValue5, infoByte := by kernel_rfl, cellsByte := by kernel_rfl, sizeByte := by kernel_rfl, neB5 := by decide }
end Go.Proofs.YtfcofkdpbmjefaaGreat
namespace Go.Proofs
open Go.Shelf Go.RowKit
variable {P : Program} {ρ : Ren}
set_option maxHeartbeats 1000000 in
theorem sbString_run (L : Lays.n169 P ρ) (X : Builder.Extra P ρ) (b g cap : Nat) (cur : Array Value) (fz : Nat × Nat) (p : Value) (l : List UInt8) (w : World) (h0 : l ≠ []) (hbk : w.heap[b]? = some (.cells #[p, .slice (some ⟨g, 0, none⟩) l.length cap] (ρ.t 72) (0, 0)))
    (hg : w.heap[g]? = some (.cells cur (ρ.t 5) fz)) (hnc : l.length ≤ cap) (hcm : cap ≤ maxLen) (hcs : cap ≤ cur.size) (hcell : ∀ j x, l[j]? = some x → w.drew.cell? ((⟨g, 0, none⟩ : Addr).add j) = some (.int .u8 x.toNat)) :
    Calls P (ρ.f 169) #[.pointer (some ⟨b, 0, none⟩)] w fun e w' => e = .returned (.string ⟨l.toArray⟩) ∧ w' = w.drew.freeze ⟨g, 0, none⟩ l.length := by
  have hl0 : l.length ≠ 0 := by simpa using h0
  have c1 : w.drew.cell? ⟨b, 1, none⟩ = some (.slice (some ⟨g, 0, none⟩) l.length cap) := by
    have : w.drew.heap[b]? = some (.cells #[p, .slice (some ⟨g, 0, none⟩) l.length cap] (ρ.t 72) (0, 0)) := hbk
    rw [Lib.cell_of_heap this]; rfl
  have hSD : (Builtin.unsafeSliceData_ #[(ρ.t 37)] (ρ.t 127) #[.slice (some ⟨g, 0, none⟩) l.length cap]).run P w.drew = .ok (.pointer (some ⟨g, 0, none⟩)) w.drew :=
    Lib.run_unsafeSliceData_row _ _ _ _ _ _ (by omega)
  have hUS : (Builtin.unsafeString_ #[(ρ.t 127), (ρ.t 3)] (ρ.t 9) #[.pointer (some ⟨g, 0, none⟩), .int .i64 l.length]).run P w.drew = .ok (.string ⟨l.toArray⟩) (w.drew.freeze ⟨g, 0, none⟩ l.length) :=
    Lib.run_unsafeString_row w.drew (ρ.t 127) (ρ.t 3) (ρ.t 9) (ρ.t 5) L.t127 X.cellsByte g cur.size (by have hg' : w.drew.heap[g]? = some (.cells cur (ρ.t 5) fz) := hg; simp [World.shape?, hg']) l h0 (by omega) (by unfold maxLen at hcm; omega) hcell
  have mixed := L.mixed
  have t72 := L.t72; have a72 := L.a72; have z72 := L.z72; have v72 := L.v72; have u72 := run_underlying L.t72
  have t70 := L.t70; have a70 := L.a70; have z70 := L.z70; have v70 := L.v70; have u70 := run_underlying L.t70
  have t37 := L.t37; have a37 := L.a37; have z37 := L.z37; have v37 := L.v37; have u37 := run_underlying L.t37
  have t127 := L.t127; have a127 := L.a127; have z127 := L.z127; have v127 := L.v127; have u127 := run_underlying L.t127
  have t3 := L.t3; have a3 := L.a3; have z3 := L.z3; have v3 := L.v3; have u3 := run_underlying L.t3
  have t9 := L.t9; have a9 := L.a9; have z9 := L.z9; have v9 := L.v9; have u9 := run_underlying L.t9
  have t5 := X.t5; have a5 := X.a5; have z5 := X.z5; have v5 := X.v5; have u5 := run_underlying X.t5
  go_enter L.f169, Body.n169_ntmps ρ
  go_wp2
  go_region_o
  all_goals (go_wp2; go_ret; exact ⟨rfl, rfl⟩)
set_option maxHeartbeats 1000000 in
theorem sbString_nil (L : Lays.n169 P ρ) (X : Builder.Extra P ρ) (b : Nat) (p : Value) (w : World) (hbk : w.heap[b]? = some (.cells #[p, .slice none 0 0] (ρ.t 72) (0, 0))) :
    Calls P (ρ.f 169) #[.pointer (some ⟨b, 0, none⟩)] w fun e w' => e = .returned (.string ⟨#[]⟩) ∧ w' = w.drew := by
  have hUS := fun (W : World) (q : Option Addr) => (Lib.run_unsafeString_none W _ _ _ q : (Builtin.unsafeString_ #[(ρ.t 127), (ρ.t 3)] (ρ.t 9) #[.pointer q, .int .i64 0]).run P W = .ok (.string .empty) W)
  have c1 : w.drew.cell? ⟨b, 1, none⟩ = some (.slice none 0 0) := by
    have : w.drew.heap[b]? = some (.cells #[p, .slice none 0 0] (ρ.t 72) (0, 0)) := hbk
    rw [Lib.cell_of_heap this]; rfl
  have hSD : (Builtin.unsafeSliceData_ #[(ρ.t 37)] (ρ.t 127) #[.slice none 0 0]).run P w.drew = .ok (.pointer none) w.drew := rfl
  have mixed := L.mixed
  have t72 := L.t72; have a72 := L.a72; have z72 := L.z72; have v72 := L.v72; have u72 := run_underlying L.t72
  have t70 := L.t70; have a70 := L.a70; have z70 := L.z70; have v70 := L.v70; have u70 := run_underlying L.t70
  have t37 := L.t37; have a37 := L.a37; have z37 := L.z37; have v37 := L.v37; have u37 := run_underlying L.t37
  have t127 := L.t127; have a127 := L.a127; have z127 := L.z127; have v127 := L.v127; have u127 := run_underlying L.t127
  have t3 := L.t3; have a3 := L.a3; have z3 := L.z3; have v3 := L.v3; have u3 := run_underlying L.t3
  have t9 := L.t9; have a9 := L.a9; have z9 := L.z9; have v9 := L.v9; have u9 := run_underlying L.t9
  have t5 := X.t5; have a5 := X.a5; have z5 := X.z5; have v5 := X.v5; have u5 := run_underlying X.t5
  go_enter L.f169, Body.n169_ntmps ρ
  go_wp2
  go_region_o
  all_goals (go_wp2; go_ret; exact ⟨rfl, rfl⟩)
end Go.Proofs
namespace Go.Ev
open Go Go.Vc Go.Proofs Go.Proofs.YtfcofkdpbmjefaaGreat
theorem PP_eq : PP = Go.Proofs.Tryz.prog := by unfold PP; rfl
section
variable {η η' : Eta} {B : Base} {h h' : H} {n n' : Nat} {w w' : World} {e : Env} {x : Ans} {args : CV} {vs : List Value} {K : KV}
theorem clone_ok (H0 : Rel η e.B h n w) (ha : RC η args vs) (hx : x = cloneE e args K h n) (hk : x.ok) :
    ExtV PP 55 vs w fun en w' => ∃ a, en = .returned a ∧ Aft η e.B n x K (fun _ _ => .no 0) (some a) w' := by
  have hk' := hk
  rw [hx] at hk'
  unfold cloneE at hk' hx
  obtain ⟨v, a, rfl, hv, e1⟩ := args1_ok ha hk'
  rw [e1] at hk'
  have hx := hx.trans e1
  obtain ⟨t, v, rfl, e2⟩ := onIfc_ok hk'
  rw [e2] at hk'
  have hx := hx.trans e2
  obtain ⟨k, rfl, e3⟩ := onMap_ok hk'
  rw [e3] at hk'
  have hx := hx.trans e3
  obtain ⟨ck, es, ho, e4⟩ := onMapO_ok (k := 0) hk'
  rw [e4] at hk'
  have hx := hx.trans e4
  obtain ⟨h1, e5, e6, e7⟩ := newH_ok hk'
  have hx := hx.trans e5
  simp only [R] at hv
  obtain ⟨y, ⟨b, u, hb, rfl⟩, rfl⟩ := hv
  have hob := H0.obj k
  rw [ho] at hob
  obtain ⟨b', u', ents, l, s, p1, p2, p3, p4⟩ := hob
  rw [hb] at p1
  cases p1
  have hn : New w (.map ents ck) w.heap.size (w.alloc (.map ents ck)) := ⟨rfl, rfl⟩
  have he := H0.ext (addE'_grow η (w.heap.size, 0) e6)
  refine ⟨.iface t (.map (some w.heap.size)), w.alloc (.map ents ck), ?_, .iface t (.map (some w.heap.size)), rfl, addE' η n (w.heap.size, 0), h1, n + 1, H0.new e6 e7 hn.chg (Nat.le_refl _) ⟨w.heap.size, 0, ents, l, s, addE'_self _ _ _, hn.blk, p3.mono he, p4⟩, addE'_grow η _ e6, .ifc t (.map n), hx, ?_⟩
  · rw [PP_eq, run_callFunc_extern Go.Proofs.Tryz.func55 (by kernel_rfl) (by kernel_rfl) (by kernel_rfl) (e := Extern.MapsClone.clone) (by kernel_rfl), run_maps_clone_sl w t p2]
    rfl
  · simp only [R]
    exact ⟨_, ⟨_, _, addE'_self _ _ _, rfl⟩, rfl⟩
theorem idx_eq {x c N : Nat} (hc : c < 256) : ∀ {m i : Nat}, i + m = N → idxE x c m i = if Lib.indexByte ((strOf N x).data.toList.drop i) (UInt8.ofNat c) = -1 then -1 else (i : Int) + Lib.indexByte ((strOf N x).data.toList.drop i) (UInt8.ofNat c)
  | 0, i, h => by
    rw [drop_str_nil (by omega)]
    rfl
  | m + 1, i, h => by
    have e0 : idxE x c (m + 1) i = Bool.rec (idxE x c m (i + 1)) (.ofNat i) (Nat.beq (byteAt x i) c) := rfl
    rw [e0, drop_str (by omega)]
    cases hb : Nat.beq (byteAt x i) c with
    | true =>
      have h1 : (UInt8.ofNat (byteAt x i) == UInt8.ofNat c) = true := by rw [beq_t hb]; exact beq_self_eq_true _
      simp [Lib.indexByte, h1]
    | false =>
      have h1 : (UInt8.ofNat (byteAt x i) == UInt8.ofNat c) = false := beq_eq_false_iff_ne.2 fun h => beq_f hb (u8_inj (byte_lt _ _) hc h)
      show idxE x c m (i + 1) = _
      rw [idx_eq hc (N := N) (m := m) (i := i + 1) (by omega)]
      have hge := Lib.indexByte_ge ((strOf N x).data.toList.drop (i + 1)) (UInt8.ofNat c)
      simp only [Lib.indexByte, h1, Bool.false_eq_true, if_false]
      by_cases hz : Lib.indexByte ((strOf N x).data.toList.drop (i + 1)) (UInt8.ofNat c) = -1
      · simp [hz]
      · have h2 : (Lib.indexByte ((strOf N x).data.toList.drop (i + 1)) (UInt8.ofNat c) == -1) = false := beq_eq_false_iff_ne.2 hz
        simp only [h2, Bool.false_eq_true, if_false, if_neg hz]
        rw [if_neg (by omega)]
        omega
theorem index_ok (H0 : Rel η e.B h n w) (ha : RC η args vs) (hx : x = indexByteE args K h n) (hk : x.ok) :
    ExtV PP 345 vs w fun en w' => ∃ a, en = .returned a ∧ Aft η e.B n x K (fun _ _ => .no 0) (some a) w' := by
  have hk' := hk
  rw [hx] at hk'
  unfold indexByteE at hk' hx
  obtain ⟨v, u, a, b, rfl, hv, hu, e1⟩ := args2_ok ha hk'
  rw [e1] at hk'
  have hx := hx.trans e1
  obtain ⟨m, y, rfl, e2⟩ := onStr_ok hk'
  rw [e2] at hk'
  have hx := hx.trans e2
  obtain ⟨c, rfl, hc, e3⟩ := onU8_ok hk'
  rw [e3] at hk'
  have hx := hx.trans e3
  have e4 : ∀ z : Int, (Int.rec (motive := fun _ => Ans) (fun a => fN a fun a => K (.int .i64 (.ofNat a)) h n) (fun a => K (.int .i64 (.negSucc a)) h n) z) = K (.int .i64 z) h n := by
    intro z
    cases z with
    | ofNat a => exact fN_eq _ _
    | negSucc a => rfl
  have hx := hx.trans (e4 _)
  simp only [R] at hv hu
  subst hv hu
  refine ⟨.int .i64 (idxE y c m 0), w, ?_, _, rfl, η, h, n, H0, Grow.refl _ _ _, _, hx, by simp only [R]⟩
  have e5 := idx_eq (x := y) hc (N := m) (m := m) (i := 0) (by omega)
  rw [List.drop_zero] at e5
  have e6 : idxE y c m 0 = Lib.indexByte (strOf m y).data.toList (UInt8.ofNat c) := by
    rw [e5]
    split
    · rename_i h1; exact h1.symm
    · simp
  rw [e6, PP_eq, run_callFunc_extern Go.Proofs.Tryz.func345 (by kernel_rfl) (by kernel_rfl) (by kernel_rfl) (e := Extern.BytealgIndexByte.indexByte) (by kernel_rfl)]
  show ((Extern.BytealgIndexByte.indexByte #[.string (strOf m y), .int .u8 (Int.ofNat c)]).run Go.Proofs.Tryz.prog w).andThen _ = _
  rw [Lib.run_indexByteString]
  rfl
theorem onSb_ok {o : VO} {K : VV → VV → Ans} (hk : (onSb o K).ok) : ∃ q s, o = .cells 109 (.cv q (.cv s .nl)) ∧ onSb o K = K q s := by
  cases o with
  | cells t c =>
    have e0 : onSb (.cells t c) K = bA (Nat.beq t 109) (args2 c K) (.no 292) := rfl
    rw [e0] at hk ⊢
    obtain ⟨e1, e2⟩ := bA_ok hk
    rw [e2] at hk ⊢
    have e1 := beq_t e1
    subst e1
    cases c with
    | cv q r =>
      cases r with
      | cv s r =>
        cases r with
        | nl => exact ⟨q, s, rfl, rfl⟩
        | _ => exact False.elim hk
      | _ => exact False.elim hk
    | _ => exact False.elim hk
  | _ => exact False.elim hk
theorem sb_at {k b u : Nat} {q s : VV} (hb : η k = some (b, u)) (ho : ObjAt η w k (.cells 109 (.cv q (.cv s .nl)))) : ∃ qa sa, R η q qa ∧ R η s sa ∧ Blk w b [qa, sa] 109 ∧ sa.oneCell' = true := by
  obtain ⟨b', u', l, p1, p2, p3, p4⟩ := ho
  rw [hb] at p1
  cases p1
  obtain ⟨qa, l1, h1, h2, rfl⟩ := p2.cv_inv
  obtain ⟨sa, l2, h3, h4, rfl⟩ := h2.cv_inv
  have h4 := h4.nl_inv
  subst h4
  exact ⟨qa, sa, h1, h3, p4, p3 _ (by simp)⟩
theorem check_ok (H0 : Rel η e.B h n w) (ha : RC η args vs) (hx : x = checkE e args K h n) (hk : x.ok) :
    CallV PP 75 vs w fun en w' => ∃ a, en = .returned a ∧ Aft η e.B n x K (fun _ _ => .no 0) (some a) w' := by
  have hk' := hk
  rw [hx] at hk'
  unfold checkE at hk' hx
  obtain ⟨v, a, rfl, hv, e1⟩ := args1_ok ha hk'
  rw [e1] at hk'
  have hx := hx.trans e1
  obtain ⟨k, off, rfl, e2⟩ := onPtr_ok hk'
  rw [e2] at hk'
  have hx := hx.trans e2
  obtain ⟨e3, e4⟩ := bA_ok hk'
  rw [e4] at hk'
  have hx := hx.trans e4
  have e3 := beq_t e3
  subst e3
  obtain ⟨q, s, ho, e5⟩ := onSb_ok hk'
  rw [e5] at hk'
  have hx := hx.trans e5
  simp only [R] at hv
  obtain ⟨b, u, hb, rfl⟩ := hv
  have hob := H0.obj k
  rw [ho] at hob
  obtain ⟨qa, sa, h1, h2, h3, h4⟩ := sb_at hb hob
  have htup : R η (.tup .nl) (.tuple #[]) := by simp only [R]; exact ⟨[], .nl, rfl⟩
  cases q with
  | nilp =>
    have hx : x = wr e k (.cells 109 (.cv (.ptr k 0) (.cv s .nl))) h fun h => K (.tup .nl) h n := hx
    have hk' : (wr e k (.cells 109 (.cv (.ptr k 0) (.cv s .nl))) h fun h => K (.tup .nl) h n).ok := hk'
    obtain ⟨h1', f1, f2, f3⟩ := wr_ok hk'
    simp only [R] at h1
    subst h1
    refine ⟨?_⟩
    rw [PP_eq]
    refine (Any.Builder_copyCheck_fresh sbccL sbccX b w (h3.cell (o := 0) rfl) ?_ ?_).mono ?_
    · rw [Blk] at h3; simp [World.shape?, h3]; rfl
    · rw [Blk] at h3; simp [World.frozen?, h3]
    · rintro en w' ⟨rfl, rfl⟩
      refine ⟨_, rfl, η, h1', n, ?_, Grow.refl _ _ _, .tup .nl, hx.trans f1, htup⟩
      have e1 := setCell_setB h3 0 (.pointer (some ⟨b, 0, none⟩))
      rw [e1]
      refine H0.put f2 hb (by rw [ho]; intro hn; cases hn) f3 ?_ (Vc.setB_chg _ _ _)
      refine ⟨b, u, [.pointer (some ⟨b, 0, none⟩), sa], hb, .cv (by simp only [R]; exact ⟨b, u, hb, rfl⟩) (.cv h2 .nl), ?_, Vc.setB_at h3.lt⟩
      intro y hy
      rcases List.mem_cons.1 hy with rfl | hy
      · rfl
      · rw [List.mem_singleton.1 hy]; exact h4
  | ptr k' off' =>
    have hx : x = bA (bnd (Nat.beq k k') (Nat.beq off' 0)) (K (.tup .nl) h n) (.no 207) := hx
    have hk' : (bA (bnd (Nat.beq k k') (Nat.beq off' 0)) (K (.tup .nl) h n) (.no 207)).ok := hk'
    obtain ⟨f1, f2⟩ := bA_ok hk'
    obtain ⟨f3, f4⟩ := bnd_t f1
    have f3 := beq_t f3
    have f4 := beq_t f4
    subst f3 f4
    simp only [R] at h1
    obtain ⟨b', u', hb', rfl⟩ := h1
    rw [hb] at hb'
    cases hb'
    refine ⟨?_⟩
    rw [PP_eq]
    refine (Any.Builder_copyCheck_used sbccL sbccX b w (h3.cell (o := 0) rfl)).mono ?_
    rintro en w' ⟨rfl, rfl⟩
    exact ⟨_, rfl, η, h, n, H0, Grow.refl _ _ _, .tup .nl, hx.trans f2, htup⟩
  | _ => exact False.elim hk'
theorem onOw_ok {o : VO} {K : CV → Ans} (hk : (onOw o K).ok) : ∃ u c, o = .own 5 u c ∧ onOw o K = K c := by
  cases o with
  | own t u c =>
    have e0 : onOw (.own t u c) K = bA (Nat.beq t 5) (K c) (.no 295) := rfl
    rw [e0] at hk ⊢
    obtain ⟨e1, e2⟩ := bA_ok hk
    have e1 := beq_t e1
    subst e1
    exact ⟨u, c, rfl, e2⟩
  | _ => exact False.elim hk
theorem onCb_ok {c : CV} {K : Nat → Nat → Ans} (hk : (onCb c K).ok) : ∃ m y, c = .cb m y .nl ∧ onCb c K = K m y := by
  cases c with
  | cb m y r =>
    cases r with
    | nl => exact ⟨m, y, rfl, rfl⟩
    | _ => exact False.elim hk
  | _ => exact False.elim hk
theorem freeze_chg (w : World) (g n : Nat) : Chg [g] w (w.freeze ⟨g, 0, none⟩ n) := by
  unfold World.freeze
  split
  · exact Chg.refl _ _
  · refine ⟨rfl, rfl, rfl, by simp, fun k hk hm => ?_⟩
    simp only [Array.getElem?_modify]
    rw [if_neg (by simp at hm; omega)]
theorem sizeU8 : sizeV PP 5 = some 1 := by rw [PP_eq]; kernel_rfl
theorem string_ok (H0 : Rel η e.B h n w) (ha : RC η args vs) (hx : x = stringE e args K h n) (hk : x.ok) :
    CallV PP 46 vs w fun en w' => ∃ a, en = .returned a ∧ Aft η e.B n x K (fun _ _ => .no 0) (some a) w' := by
  have hk' := hk
  rw [hx] at hk'
  unfold stringE at hk' hx
  obtain ⟨v, a, rfl, hv, e1⟩ := args1_ok ha hk'
  rw [e1] at hk'
  have hx := hx.trans e1
  obtain ⟨k, off, rfl, e2⟩ := onPtr_ok hk'
  rw [e2] at hk'
  have hx := hx.trans e2
  obtain ⟨e3, e4⟩ := bA_ok hk'
  rw [e4] at hk'
  have hx := hx.trans e4
  have e3 := beq_t e3
  subst e3
  obtain ⟨q, s, ho, e5⟩ := onSb_ok hk'
  rw [e5] at hk'
  have hx := hx.trans e5
  simp only [R] at hv
  obtain ⟨b, u, hb, rfl⟩ := hv
  have hob := H0.obj k
  rw [ho] at hob
  obtain ⟨qa, sa, h1, h2, h3, h4⟩ := sb_at hb hob
  cases s with
  | nils =>
    have hx : x = K (.str 0 0) h n := hx
    simp only [R] at h2
    subst h2
    refine ⟨?_⟩
    rw [PP_eq]
    refine (sbString_nil sbstrL sbstrX b qa w h3).mono ?_
    rintro en w' ⟨rfl, rfl⟩
    exact ⟨_, rfl, η, h, n, H0.chg (drew_chg w), Grow.refl _ _ _, .str 0 0, hx, by simp only [R]; rfl⟩
  | sg k2 off2 lo m =>
    have hx2 : x = bA (bnd (Nat.beq off2 0) (Nat.blt 0 m)) (onOw (look e.B h k2) fun c => takeC c m fun d => onCb d fun m x => wr e k2 .no h fun h => K (.str m x) h n) (.no 299) := hx
    have hk2 : (bA (bnd (Nat.beq off2 0) (Nat.blt 0 m)) (onOw (look e.B h k2) fun c => takeC c m fun d => onCb d fun m x => wr e k2 .no h fun h => K (.str m x) h n) (.no 299)).ok := hk'
    clear hk' hx
    obtain ⟨f1, f2⟩ := bA_ok hk2
    obtain ⟨f3, f4⟩ := bnd_t f1
    have f3 := beq_t f3
    have f4 := blt_t f4
    subst f3
    rw [f2] at hk2
    replace hx2 := hx2.trans f2
    obtain ⟨mm, c, ho2, f5⟩ := onOw_ok hk2
    rw [f5] at hk2
    replace hx2 := hx2.trans f5
    simp only [R] at h2
    obtain ⟨g, u2, hg, hlo, rfl⟩ := h2
    have hob2 := H0.obj k2
    rw [ho2] at hob2
    obtain ⟨g', u3, l, sz, p1, p2, p3, p4, p5⟩ := hob2
    rw [hg] at p1
    cases p1
    rw [sizeU8] at p4
    cases p4
    obtain ⟨d, f6, f7, f8⟩ := takeC_ok p2 hk2
    rw [f6] at hk2
    replace hx2 := hx2.trans f6
    obtain ⟨m', y, rfl, f9⟩ := onCb_ok hk2
    rw [f9] at hk2
    replace hx2 := hx2.trans f9
    obtain ⟨h', q1, q2, q3⟩ := wr_ok hk2
    replace hx2 := hx2.trans q1
    obtain ⟨l0, r1, r2⟩ := f7.cb_inv
    have r1 := r1.nl_inv
    subst r1
    rw [List.append_nil] at r2
    have hm : m' = m := by
      have := congrArg List.length r2
      rw [bytesL_len, List.length_take] at this
      omega
    subst hm
    rcases p5.2 with ⟨z, _⟩ | ⟨g1, cur, fz, z, -, z1, z2, z3, z4, z5, z6⟩
    · cases z
    · cases z
      have hlen : (strOf m' y).data.toList.length = m' := by rw [strOf_list]; simp
      have hcm : u2 - lo ≤ maxLen := by omega
      refine ⟨?_⟩
      rw [PP_eq]
      have hst := sbString_run sbstrL sbstrX b g (u2 - lo) cur fz qa (strOf m' y).data.toList w (by intro hh; rw [hh] at hlen; simp at hlen; omega) (by rw [hlen]; exact h3) z1 (by rw [hlen]; omega) hcm (by omega) (by
        intro j z hj
        have hjm : j < m' := by
          have := (List.getElem?_eq_some_iff.1 hj).1
          omega
        rw [strOf_get, if_pos hjm] at hj
        cases hj
        have hlj : l[j]? = some (.int .u8 (byteAt y j : Nat)) := by
          have := congrArg (fun l : List Value => l[j]?) r2
          simp only [bytesL_get, if_pos hjm, List.getElem?_take] at this
          exact this
        obtain ⟨ad, e, hc⟩ := p5.cells j _ hlj
        cases e
        rw [u8_nat (byte_lt _ _)]
        exact hc)
      rw [hlen] at hst
      refine hst.mono ?_
      rintro en w' ⟨rfl, rfl⟩
      have hc : Chg [g] w (w.drew.freeze ⟨g, 0, none⟩ m') := freeze_chg w.drew g m'
      refine ⟨_, rfl, η, h', n, ?_, Grow.refl _ _ _, .str m' y, hx2, by simp only [R]⟩
      refine H0.upd (o := .no) q2 q3 trivial (S := [g]) hc (fun k' b' c' hne hn hb' hmem => ?_) (fun hh => absurd rfl hh) fun b' hm => ?_
      · simp at hmem
        subst hmem
        exact hne (H0.inj k' k2 _ c' _ hn (by rw [ho2]; intro hh; cases hh) hb' hg)
      · rw [List.mem_singleton.1 hm]
        exact H0.young k2 _ _ (by rw [ho2]; intro hh; cases hh) hg
  | _ => exact False.elim hk'
end
end Go.Ev
namespace Go.Ev
open Go Go.Vc Go.Proofs Go.Proofs.YtfcofkdpbmjefaaGreat
section
variable {η : Eta} {B : Base} {h : H} {n : Nat} {w : World} {x : Ans} {args : CV} {vs : List Value} {K : KV}
theorem extN_cases (g : Nat) : extN g = 0 ∨ (g = 55 ∧ extN g = 1) ∨ (g = 345 ∧ extN g = 4) ∨ (g = 75 ∧ extN g = 6) ∨ (g = 46 ∧ extN g = 7) := by
  have e0 : extN g = Bool.rec (Bool.rec (Bool.rec (Bool.rec 0 7 (Nat.beq g 46)) 6 (Nat.beq g 75)) 4 (Nat.beq g 345)) 1 (Nat.beq g 55) := rfl
  rw [e0]
  cases h1 : Nat.beq g 55 with
  | true => exact .inr (.inl ⟨beq_t h1, rfl⟩)
  | false =>
    cases h2 : Nat.beq g 345 with
    | true => exact .inr (.inr (.inl ⟨beq_t h2, rfl⟩))
    | false =>
      cases h3 : Nat.beq g 75 with
      | true => exact .inr (.inr (.inr (.inl ⟨beq_t h3, rfl⟩)))
      | false =>
        cases h4 : Nat.beq g 46 with
        | true => exact .inr (.inr (.inr (.inr ⟨beq_t h4, rfl⟩)))
        | false => exact .inl rfl
theorem body55 : (PP.funcs[55]?).map (fun f => f.body.isSome) = some false := by rw [PP_eq]; kernel_rfl
theorem body345 : (PP.funcs[345]?).map (fun f => f.body.isSome) = some false := by rw [PP_eq]; kernel_rfl
theorem body75 : (PP.funcs[75]?).map (fun f => f.body.isSome) = some true := by rw [PP_eq]; kernel_rfl
theorem body46 : (PP.funcs[46]?).map (fun f => f.body.isSome) = some true := by rw [PP_eq]; kernel_rfl
def CallG (P : Program) (g : FuncId) (vs : List Value) (w : World) (R : Ending → World → Prop) : Prop :=
  match P.funcs[g]? with
  | some fn => match fn.body with
    | some _ => CallV P g vs w R
    | none => ExtV P g vs w R
  | none => False
theorem callG_v {P : Program} {g : FuncId} {fn : Func} {c : Code} (hf : P.funcs[g]? = some fn) (hb : fn.body = some c) {R : Ending → World → Prop} (h : CallV P g vs w R) : CallG P g vs w R := by
  unfold CallG
  simp only [hf, hb]
  exact h
theorem callG_e {P : Program} {g : FuncId} {fn : Func} (hf : P.funcs[g]? = some fn) (hb : fn.body = none) {R : Ending → World → Prop} (h : ExtV P g vs w R) : CallG P g vs w R := by
  unfold CallG
  simp only [hf, hb]
  exact h
theorem fn_ok (hN : NoNum PP) {ih : CF} (hcall : CallOK ih) {g : FuncId} (H0 : Rel η B h n w) (ha : RC η args vs) (hx : x = funE ih g B args K h n) (hk : x.ok) :
    CallG PP g vs w fun en w' => ∃ a, en = .returned a ∧ Aft η B n x K (fun _ _ => .no 0) (some a) w' := by
  have hx : x = Option.rec (motive := fun _ => Ans) (.no 220) (fun fn => funX ih g fn B args K h n) (PP.funcs[g]?) := hx
  have hk' := hk
  rw [hx] at hk'
  cases hf : PP.funcs[g]? with
  | none => rw [hf] at hk'; exact False.elim hk'
  | some fn =>
    rw [hf] at hx hk'
    have hx : x = bA (Nat.beq (extN g) 0) (Option.rec (motive := fun _ => Ans) (.no 219) (fun c => bA (isMg g) (mergeE ih fn c B args K h n) (bodyE fn c (Env.mk ih B) args K h n)) fn.body) (extE (extN g) (Env.mk ih B) args K h n) := hx
    rcases extN_cases g with e | ⟨hg, e⟩ | ⟨hg, e⟩ | ⟨hg, e⟩ | ⟨hg, e⟩
    · rw [e] at hx
      have hx : x = Option.rec (motive := fun _ => Ans) (.no 219) (fun c => bA (isMg g) (mergeE ih fn c B args K h n) (bodyE fn c (Env.mk ih B) args K h n)) fn.body := hx
      have hk' := hk
      rw [hx] at hk'
      cases hb : fn.body with
      | none => rw [hb] at hk'; exact False.elim hk'
      | some c =>
        rw [hb] at hx
        have hx : x = bA (isMg g) (mergeE ih fn c B args K h n) (bodyE fn c (Env.mk ih B) args K h n) := hx
        refine callG_v hf hb ⟨?_⟩
        cases hm : isMg g with
        | true =>
          rw [hm] at hx
          exact merge_ok hN hcall hf hb H0 ha hx hk
        | false =>
          rw [hm] at hx
          exact body_ok hN (e := ⟨ih, B⟩) hcall hf hb H0 ha hx hk
    · subst hg
      rw [e] at hx
      have hb := body55
      rw [hf] at hb
      exact callG_e hf (by cases h : fn.body with
        | none => rfl
        | some c => simp [h] at hb) (clone_ok (e := ⟨ih, B⟩) H0 ha hx hk)
    · subst hg
      rw [e] at hx
      have hb := body345
      rw [hf] at hb
      exact callG_e hf (by cases h : fn.body with
        | none => rfl
        | some c => simp [h] at hb) (index_ok (e := ⟨ih, B⟩) H0 ha hx hk)
    · subst hg
      rw [e] at hx
      have hb := body75
      rw [hf] at hb
      cases h : fn.body with
      | none => simp [h] at hb
      | some c => exact callG_v hf h (check_ok (e := ⟨ih, B⟩) H0 ha hx hk)
    · subst hg
      rw [e] at hx
      have hb := body46
      rw [hf] at hb
      cases h : fn.body with
      | none => simp [h] at hb
      | some c => exact callG_v hf h (string_ok (e := ⟨ih, B⟩) H0 ha hx hk)
theorem call_ok (hN : NoNum PP) : ∀ n, CallOK (callE n)
  | 0 => by
    intro H0 hf ha hk
    exact False.elim hk
  | m + 1 => by
    rename_i η B h n w f fv args vs K
    intro H0 hf ha hk
    have ih : CallOK (callE m) := call_ok hN m
    have e0 : callE (m + 1) B f args K h n = callS (callE m) B f args K h n := rfl
    rw [e0] at hk ⊢
    cases f with
    | yld l => exact yld_ok hN ih H0 hf ha rfl hk
    | fn g fi ca =>
      have e1 : callS (callE m) B (.fn g fi ca) args K h n = catC args ca fun x => catC fi x fun x => funE (callE m) g B x K h n := rfl
      simp only [R] at hf
      obtain ⟨a, b, h1, h2, rfl⟩ := hf
      have hk' := hk
      rw [e1] at hk'
      obtain ⟨c1, e2, e3⟩ := catC_ok h2 ha hk'
      rw [e2] at hk'
      obtain ⟨c2, e4, e5⟩ := catC_ok e3 h1 hk'
      have h := fn_ok (x := callS (callE m) B (.fn g fi ca) args K h n) hN ih H0 e5 (e1.trans (e2.trans e4)) hk
      rw [← List.append_assoc] at h
      exact h
    | _ => exact False.elim hk
theorem run_ok (hN : NoNum PP) {f : FuncId} (ha : okA (callE 100000 B0 (.fn f .nl .nl) .nl (fun v _ _ => isT v) .e 0) = true) (w : World) : CallX PP (.func (.func f) #[] #[]) [] w fun e w' => e = .returned (.bool true) ∧ Chg [] w w' := by
  have H0 : Rel ⟨fun _ => none, w⟩ B0 .e 0 w := by
    have hl : ∀ k, look B0 .e k = .no := fun k => by rw [look_ge (B := B0) (Nat.zero_le k)]; exact getH_e k
    exact ⟨fun _ _ _ => rfl, Nat.le_refl _, fun k => by rw [hl]; trivial, fun k k' b c c' h => absurd (hl k) h, Chg.refl _ _, fun k b c h => absurd (hl k) h⟩
  have hyes : callE 100000 B0 (.fn f .nl .nl) .nl (fun v _ _ => isT v) .e 0 = .yes := by
    generalize callE 100000 B0 (.fn f .nl .nl) .nl (fun v _ _ => isT v) .e 0 = a at ha
    cases a with
    | yes => rfl
    | _ => cases ha
  have hf : R ⟨fun _ => none, w⟩ (.fn f .nl .nl) (.func (.func f) #[] #[]) := by
    simp only [R]
    exact ⟨[], [], .nl, .nl, rfl⟩
  refine callX_mono ?_ (call_ok hN 100000 (K := fun v _ _ => isT v) H0 hf .nl (by rw [hyes]; trivial))
  rintro e w' ⟨a, rfl, η', h', n', H1, hg, v, hv, hR⟩
  have hv : Ans.yes = isT v := hyes.symm.trans hv
  have hk : (isT v).ok := by rw [← hv]; trivial
  obtain ⟨b, rfl, e1⟩ := onBool_ok (K := fun b => bA b .yes (.no 226)) hk
  simp only [R] at hR
  subst hR
  cases b with
  | true => exact ⟨rfl, by rw [← show η'.w0 = w from hg.w0]; exact H1.kept⟩
  | false => cases hv
end
end Go.Ev
